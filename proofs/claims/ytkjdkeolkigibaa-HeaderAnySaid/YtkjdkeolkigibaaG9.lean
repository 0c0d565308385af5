/-
  Texts of this claim, part 9: HdG, HaB. No condition of its own.
-/
import Derived.Test.YtkjdkeolkigibaaG8
section
/-
  The law of headers as bytes. No condition.
-/
namespace Go.Proofs.Ytkjdkeolkigibaa
set_option linter.unusedVariables false
namespace Sx
open Sha Vi
set_option linter.unusedSimpArgs false

def pnF (p : Int) (k : Nat) : Int := if k = 0 then p else p % 1024
theorem pn_at (p : Int) {k : Nat} (hk : k < 2) : nthC [.int .i64 p, .int .i64 (p % 1024)] (((k : Nat) : Int).toNat + 0) = .int .i64 (pnF p k) := by
  have : k = 0 ∨ k = 1 := by omega
  rcases this with rfl | rfl <;> rfl
abbrev arrF (h H : Hd) : Nat → SC := nthC [.w8 h.sp, svC 0 h.t, svC 1 h.f, svC 2 h.k, .bool h.turn, svC 3 h.n, .w8 H.sp, svC 0 H.t, svC 1 H.f, svC 2 H.k, .bool H.turn, svC 5 H.n]
structure Hd.Fit (h : Hd) : Prop where
  t : h.t.Fit
  f : h.f.Fit
  k : h.k.Fit
  n : h.n.Fit
theorem Hd.Fit.ok {h : Hd} (hf : h.Fit) (hl : lightM h = true) : h.Ok := by
  have := of_decide_eq_true hl
  exact ⟨hf.t.ok (by omega), hf.f.ok (by omega), hf.k.ok (by omega), hf.n.ok (by omega)⟩
theorem lt12 {j : Nat} (h : j < 12) : j = 0 ∨ j = 1 ∨ j = 2 ∨ j = 3 ∨ j = 4 ∨ j = 5 ∨ j = 6 ∨ j = 7 ∨ j = 8 ∨ j = 9 ∨ j = 10 ∨ j = 11 := by omega
theorem lt2' {j : Nat} (h : j < 2) : j = 0 ∨ j = 1 := by omega
set_option maxRecDepth 20000 in
set_option maxHeartbeats 16000000 in
theorem fn_headerPuts (h : Hd) (hfit : h.Fit) (p : Int) : FnR Try.prog tds 3 4 (hdB h) [.agg (hdC 0 1 2 3 h), .c (.int .i64 p)] (fun _ => True) (fun x _ => x = .a (.c (.bool true))) := by
  refine fn_of_body tds_ok follows_ Try.func3 rfl (t := .a (.agg (hdC 0 1 2 3 h)) :: .a (.c (.int .i64 p)) :: anys (Try.f3.ntmps - 2)) rfl (fun w r0 hr _ => ?_)
  obtain ⟨x0, x1, x2, x3, rfl⟩ := len4' hr
  (repeat first | refine And.intro (by omega) ?_ | refine And.intro (by decide) ?_ | (with_reducible refine frc_parts (by first | omega | decide) ?_) | (with_reducible refine frc_bytesL (by first | omega | decide) ?_) | refine And.intro rfl ?_)
  refine call_same fn_awake9 [] rfl trivial trivial (fun _ _ => trivial) ?_
  rintro x hs ⟨rfl, rfl⟩
  (repeat first | refine And.intro (by omega) ?_ | refine And.intro (by decide) ?_ | refine And.intro rfl ?_ | refine And.intro (fun _ => ?_) (fun h => Bool.noConfusion h) | refine And.intro (fun h => Bool.noConfusion h) (fun _ => ?_))
  refine call_same (fn_llight h) [0, 1, 2, 3] rfl (by (repeat first | exact trivial | refine ⟨rfl, ?_⟩ | refine ⟨fun _ _ => ⟨rfl, trivial⟩, ?_⟩ | refine ⟨fun _ _ => trivial, ?_⟩ | refine ⟨by omega, ?_⟩ | refine ⟨fun _ _ => eqC_winS, ?_⟩ | refine ⟨fun _ _ => eqC_winM, ?_⟩ | refine ⟨fun _ _ => eqC_winB, ?_⟩ | refine ⟨fun _ _ => eqC_selfB, ?_⟩ | refine ⟨fun _ _ => eqC_mpB, ?_⟩)) ?_ (fun _ _ => trivial) ?_
  · refine eqC_bts (eqC_bts (eqC_bts (eqC_bts ?_)))
    (repeat first | exact trivial | refine ⟨rfl, ?_⟩ | refine ⟨fun _ _ => ⟨rfl, trivial⟩, ?_⟩ | refine ⟨fun _ _ => trivial, ?_⟩ | refine ⟨by omega, ?_⟩ | refine ⟨fun _ _ => eqC_winS, ?_⟩ | refine ⟨fun _ _ => eqC_winM, ?_⟩ | refine ⟨fun _ _ => eqC_winB, ?_⟩ | refine ⟨fun _ _ => eqC_selfB, ?_⟩ | refine ⟨fun _ _ => eqC_mpB, ?_⟩)
  rintro x hs ⟨rfl, rfl⟩
  cases hl : lightM h with
  | false =>
    have e0 : (!false) = true := rfl
    (repeat first | refine And.intro (by omega) ?_ | refine And.intro (by decide) ?_ | refine And.intro rfl ?_ | refine And.intro (fun _ => ?_) (fun h => Bool.noConfusion h) | refine And.intro (fun h => Bool.noConfusion h) (fun _ => ?_))
    refine ⟨.a (.c (.bool true)), [[], [], [], []], ⟨[0, 1, 2, 3], ⟨rfl, rfl, rfl⟩, ?_⟩, rfl⟩
    (repeat first | exact trivial | refine ⟨rfl, ?_⟩ | refine ⟨fun _ _ => ⟨rfl, trivial⟩, ?_⟩ | refine ⟨fun _ _ => trivial, ?_⟩ | refine ⟨by omega, ?_⟩ | refine ⟨fun _ _ => eqC_winS, ?_⟩ | refine ⟨fun _ _ => eqC_winM, ?_⟩ | refine ⟨fun _ _ => eqC_winB, ?_⟩ | refine ⟨fun _ _ => eqC_selfB, ?_⟩ | refine ⟨fun _ _ => eqC_mpB, ?_⟩)
    exact eqSegs_nil (eqSegs_nil (eqSegs_nil (eqSegs_nil trivial)))
  | true =>
  have ho := hfit.ok hl
  (repeat first | refine And.intro (by omega) ?_ | refine And.intro (by decide) ?_ | refine And.intro rfl ?_ | refine And.intro (fun _ => ?_) (fun h => Bool.noConfusion h) | refine And.intro (fun h => Bool.noConfusion h) (fun _ => ?_))
  refine ⟨none, [], [(0, true), (1, true), (5, true), (2, false), (3, false), (4, true)], [], by kernel_rfl, ?_⟩
  (repeat first | refine And.intro (by omega) ?_ | refine And.intro (by decide) ?_ | (with_reducible refine frc_parts (by first | omega | decide) ?_) | (with_reducible refine frc_bytesL (by first | omega | decide) ?_) | refine And.intro rfl ?_)
  refine call_same (fn_hfit h ho) [0, 1, 2, 3] rfl (by (repeat first | exact trivial | refine ⟨rfl, ?_⟩ | refine ⟨fun _ _ => ⟨rfl, trivial⟩, ?_⟩ | refine ⟨fun _ _ => trivial, ?_⟩ | refine ⟨by omega, ?_⟩ | refine ⟨fun _ _ => eqC_winS, ?_⟩ | refine ⟨fun _ _ => eqC_winM, ?_⟩ | refine ⟨fun _ _ => eqC_winB, ?_⟩ | refine ⟨fun _ _ => eqC_selfB, ?_⟩ | refine ⟨fun _ _ => eqC_mpB, ?_⟩)) ?_ (fun _ _ => trivial) ?_
  · refine eqC_bts (eqC_bts (eqC_bts (eqC_bts ?_)))
    (repeat first | exact trivial | refine ⟨rfl, ?_⟩ | refine ⟨fun _ _ => ⟨rfl, trivial⟩, ?_⟩ | refine ⟨fun _ _ => trivial, ?_⟩ | refine ⟨by omega, ?_⟩ | refine ⟨fun _ _ => eqC_winS, ?_⟩ | refine ⟨fun _ _ => eqC_winM, ?_⟩ | refine ⟨fun _ _ => eqC_winB, ?_⟩ | refine ⟨fun _ _ => eqC_selfB, ?_⟩ | refine ⟨fun _ _ => eqC_mpB, ?_⟩)
  rintro x hs ⟨c0, hc0, rfl, rfl⟩
  have st : Sub h.t (fitM h c0).t := cutS_sub _ _
  have sf := fitM_f_sub h c0
  have sk := fitM_k_sub h c0
  have Ho := fitM_ok ho hc0
  have h0H := fitM_check h c0
  obtain ⟨H, hH⟩ : ∃ H, fitM h c0 = H := ⟨_, rfl⟩
  rw [hH] at st sf sk Ho h0H ⊢
  (repeat first | refine And.intro (by omega) ?_ | refine And.intro (by decide) ?_ | (with_reducible refine frc_parts (by first | omega | decide) ?_) | (with_reducible refine frc_bytesL (by first | omega | decide) ?_) | refine And.intro rfl ?_)
  refine ⟨by show 0 + 6 ≤ 12; omega, rfl, by show 6 + 6 ≤ 12; omega, ?_⟩
  (repeat first | refine And.intro (by omega) ?_ | refine And.intro (by decide) ?_ | (with_reducible refine frc_parts (by first | omega | decide) ?_) | (with_reducible refine frc_bytesL (by first | omega | decide) ?_) | refine And.intro rfl ?_)
  refine .inr ⟨3, ?_⟩
  refine ⟨fun _ => ?_, fun hh => Bool.noConfusion hh⟩
  (repeat first | refine And.intro (by omega) ?_ | refine And.intro (by decide) ?_ | (with_reducible refine frc_parts (by first | omega | decide) ?_) | (with_reducible refine frc_bytesL (by first | omega | decide) ?_) | refine And.intro rfl ?_)
  refine .inl ⟨Nat, fun k => ⟨[.any, .a (.c (.int .i64 (p))), .any, .any, .any, .any, .a (.c (.p 7 0 0)), .any, .any, .any, .any, .any, .any, .any, .any, .any, .any, .any, .any, .any, .a (.c (.sl 6 0 0 2 2)), .a (.c (.int .i64 (2))), .a (.c (.int .i64 (0))), .any, .any, .any, .any, .any, .any, .a (.c (.sl 8 0 0 2 2)), .a (.c (.int .i64 (2))), .a (.c (.int .i64 (↑k))), .any, .any, .any, .any, .any, .any, .any, .any, .any, .any, .any, .any, .any, .any, .any, .any, .any, .any, .any, .any, .any, .any, .any, .any, .any, .any, .any, .any, .any, .any, .any, .any, .any, .any, .any, .any, .any, .any, .any, .any, .any, .any, .any, .any, .any, .any, .any, .any, .any, .any, .any, .any, .any, .any, .any, .any, .any, .any, .any, .any, .any, .any, .any, .any, .any, .any, .any, .any, .any, .any, .any, .any, .any], [svB h.t, svB h.f, svB h.k, svB h.n, [], svB H.n, [.row 12 (arrF h H)], hdC 0 1 2 3 h, [.row 2 (nthC [.int .i64 p, .int .i64 (p % 1024)])]]⟩, fun k => k ≤ 2, fun k => 2 - k, ⟨0, [0, 1, 2, 3, 4, 5, 6, 7, 8], ⟨⟨rfl, rfl, rfl⟩, ?_⟩, by omega⟩, fun k hk => ⟨fun hlt => ?_, fun hlt => ?_⟩⟩
  · (repeat first | exact trivial | refine ⟨rfl, ?_⟩ | refine ⟨fun _ _ => ⟨rfl, trivial⟩, ?_⟩ | refine ⟨fun _ _ => trivial, ?_⟩ | refine ⟨by omega, ?_⟩ | refine ⟨fun _ _ => eqC_winS, ?_⟩ | refine ⟨fun _ _ => eqC_winM, ?_⟩ | refine ⟨fun _ _ => eqC_winB, ?_⟩ | refine ⟨fun _ _ => eqC_selfB, ?_⟩ | refine ⟨fun _ _ => eqC_mpB, ?_⟩)
    refine eqC_bts (eqC_bts (eqC_bts (eqC_bts ?_)))
    refine eqSegs_nil ?_
    refine eqC_btsM ?_
    refine ⟨rfl, fun j hj => ?_, ?_⟩
    · rcases lt12 hj with rfl | rfl | rfl | rfl | rfl | rfl | rfl | rfl | rfl | rfl | rfl | rfl <;> (repeat first | exact trivial | refine ⟨rfl, ?_⟩ | refine ⟨fun _ _ => ⟨rfl, trivial⟩, ?_⟩ | refine ⟨fun _ _ => trivial, ?_⟩ | refine ⟨by omega, ?_⟩ | refine ⟨fun _ _ => eqC_winS, ?_⟩ | refine ⟨fun _ _ => eqC_winM, ?_⟩ | refine ⟨fun _ _ => eqC_winB, ?_⟩ | refine ⟨fun _ _ => eqC_selfB, ?_⟩ | refine ⟨fun _ _ => eqC_mpB, ?_⟩)
    (repeat first | exact trivial | refine ⟨rfl, ?_⟩ | refine ⟨fun _ _ => ⟨rfl, trivial⟩, ?_⟩ | refine ⟨fun _ _ => trivial, ?_⟩ | refine ⟨by omega, ?_⟩ | refine ⟨fun _ _ => eqC_winS, ?_⟩ | refine ⟨fun _ _ => eqC_winM, ?_⟩ | refine ⟨fun _ _ => eqC_winB, ?_⟩ | refine ⟨fun _ _ => eqC_selfB, ?_⟩ | refine ⟨fun _ _ => eqC_mpB, ?_⟩)
    refine ⟨fun j hj => ?_, trivial⟩
    rcases lt2' hj with rfl | rfl <;> exact ⟨rfl, trivial⟩
  · have hk2 : k < 2 := by have : (k : Int) < 2 := of_decide_eq_true hlt; omega
    (repeat first | refine And.intro (by omega) ?_ | refine And.intro (by decide) ?_ | (with_reducible refine frc_parts (by first | omega | decide) ?_) | (with_reducible refine frc_bytesL (by first | omega | decide) ?_) | refine And.intro rfl ?_)
    refine frc_eq (pn_at p hk2) ?_
    obtain ⟨n, hn⟩ : ∃ n, pnF p k = n := ⟨_, rfl⟩
    rw [hn]
    (repeat first | refine And.intro (by omega) ?_ | refine And.intro (by decide) ?_ | (with_reducible refine frc_parts (by first | omega | decide) ?_) | (with_reducible refine frc_bytesL (by first | omega | decide) ?_) | refine And.intro rfl ?_)
    refine call_same (fn_lcheck h) [0, 1, 2, 3] rfl (by (repeat first | exact trivial | refine ⟨rfl, ?_⟩ | refine ⟨fun _ _ => ⟨rfl, trivial⟩, ?_⟩ | refine ⟨fun _ _ => trivial, ?_⟩ | refine ⟨by omega, ?_⟩ | refine ⟨fun _ _ => eqC_winS, ?_⟩ | refine ⟨fun _ _ => eqC_winM, ?_⟩ | refine ⟨fun _ _ => eqC_winB, ?_⟩ | refine ⟨fun _ _ => eqC_selfB, ?_⟩ | refine ⟨fun _ _ => eqC_mpB, ?_⟩)) ?_ (fun _ _ => trivial) ?_
    · refine eqC_bts (eqC_bts (eqC_bts (eqC_bts ?_)))
      (repeat first | exact trivial | refine ⟨rfl, ?_⟩ | refine ⟨fun _ _ => ⟨rfl, trivial⟩, ?_⟩ | refine ⟨fun _ _ => trivial, ?_⟩ | refine ⟨by omega, ?_⟩ | refine ⟨fun _ _ => eqC_winS, ?_⟩ | refine ⟨fun _ _ => eqC_winM, ?_⟩ | refine ⟨fun _ _ => eqC_winB, ?_⟩ | refine ⟨fun _ _ => eqC_selfB, ?_⟩ | refine ⟨fun _ _ => eqC_mpB, ?_⟩)
    rintro x hs ⟨rfl, rfl⟩
    (repeat first | refine And.intro (by omega) ?_ | refine And.intro (by decide) ?_ | (with_reducible refine frc_parts (by first | omega | decide) ?_) | (with_reducible refine frc_bytesL (by first | omega | decide) ?_) | refine And.intro rfl ?_)
    refine call_same (fn_hput h ho n) [0, 1, 2, 3] rfl (by (repeat first | exact trivial | refine ⟨rfl, ?_⟩ | refine ⟨fun _ _ => ⟨rfl, trivial⟩, ?_⟩ | refine ⟨fun _ _ => trivial, ?_⟩ | refine ⟨by omega, ?_⟩ | refine ⟨fun _ _ => eqC_winS, ?_⟩ | refine ⟨fun _ _ => eqC_winM, ?_⟩ | refine ⟨fun _ _ => eqC_winB, ?_⟩ | refine ⟨fun _ _ => eqC_selfB, ?_⟩ | refine ⟨fun _ _ => eqC_mpB, ?_⟩)) ?_ (fun _ _ => trivial) ?_
    · refine eqC_bts (eqC_bts (eqC_bts (eqC_bts ?_)))
      (repeat first | exact trivial | refine ⟨rfl, ?_⟩ | refine ⟨fun _ _ => ⟨rfl, trivial⟩, ?_⟩ | refine ⟨fun _ _ => trivial, ?_⟩ | refine ⟨by omega, ?_⟩ | refine ⟨fun _ _ => eqC_winS, ?_⟩ | refine ⟨fun _ _ => eqC_winM, ?_⟩ | refine ⟨fun _ _ => eqC_winB, ?_⟩ | refine ⟨fun _ _ => eqC_selfB, ?_⟩ | refine ⟨fun _ _ => eqC_mpB, ?_⟩)
    rintro x hs ⟨hx1, hx2⟩
    by_cases h0 : checkM h = 0
    rotate_left
    · have hE : putE h n = checkM h := by unfold putE; rw [if_pos h0]
      obtain ⟨rfl, rfl⟩ := hx1 (by rw [hE]; exact h0)
      clear hx1 hx2
      rw [hE]
      have e1 : decide (checkM h = 0) = false := decide_eq_false h0
      (repeat first | refine And.intro (by omega) ?_ | refine And.intro (by decide) ?_ | refine And.intro rfl ?_ | refine And.intro (fun _ => ?_) (fun h => Bool.noConfusion h) | refine And.intro (fun h => Bool.noConfusion h) (fun _ => ?_) | refine And.intro (fun _ => ?_) (fun h => absurd h (by rw [e1]; decide)) | refine And.intro (fun h => absurd h (by rw [e1]; decide)) (fun _ => ?_))
      refine ⟨none, [], [(0, true), (2, true), (1, false), (3, false), (4, true), (5, true), (6, true), (7, true), (8, true), (9, true), (10, true), (11, true), (12, true), (13, true), (14, true), (15, true), (16, true), (17, true), (18, true)], [], by kernel_rfl, ?_⟩
      (repeat first | refine And.intro (by omega) ?_ | refine And.intro (by decide) ?_ | (with_reducible refine frc_parts (by first | omega | decide) ?_) | (with_reducible refine frc_bytesL (by first | omega | decide) ?_) | refine And.intro rfl ?_)
      refine call_same (fn_hcheck h) [0, 1, 2, 3] rfl (by (repeat first | exact trivial | refine ⟨rfl, ?_⟩ | refine ⟨fun _ _ => ⟨rfl, trivial⟩, ?_⟩ | refine ⟨fun _ _ => trivial, ?_⟩ | refine ⟨by omega, ?_⟩ | refine ⟨fun _ _ => eqC_winS, ?_⟩ | refine ⟨fun _ _ => eqC_winM, ?_⟩ | refine ⟨fun _ _ => eqC_winB, ?_⟩ | refine ⟨fun _ _ => eqC_selfB, ?_⟩ | refine ⟨fun _ _ => eqC_mpB, ?_⟩)) ?_ (fun _ _ => trivial) ?_
      · refine eqC_bts (eqC_bts (eqC_bts (eqC_bts ?_)))
        (repeat first | exact trivial | refine ⟨rfl, ?_⟩ | refine ⟨fun _ _ => ⟨rfl, trivial⟩, ?_⟩ | refine ⟨fun _ _ => trivial, ?_⟩ | refine ⟨by omega, ?_⟩ | refine ⟨fun _ _ => eqC_winS, ?_⟩ | refine ⟨fun _ _ => eqC_winM, ?_⟩ | refine ⟨fun _ _ => eqC_winB, ?_⟩ | refine ⟨fun _ _ => eqC_selfB, ?_⟩ | refine ⟨fun _ _ => eqC_mpB, ?_⟩)
      rintro x hs ⟨rfl, rfl⟩
      (repeat first | refine And.intro (by omega) ?_ | refine And.intro (by decide) ?_ | (with_reducible refine frc_parts (by first | omega | decide) ?_) | (with_reducible refine frc_bytesL (by first | omega | decide) ?_) | refine And.intro rfl ?_)
      refine call_same (fn_lcheck h) [0, 1, 2, 3] rfl (by (repeat first | exact trivial | refine ⟨rfl, ?_⟩ | refine ⟨fun _ _ => ⟨rfl, trivial⟩, ?_⟩ | refine ⟨fun _ _ => trivial, ?_⟩ | refine ⟨by omega, ?_⟩ | refine ⟨fun _ _ => eqC_winS, ?_⟩ | refine ⟨fun _ _ => eqC_winM, ?_⟩ | refine ⟨fun _ _ => eqC_winB, ?_⟩ | refine ⟨fun _ _ => eqC_selfB, ?_⟩ | refine ⟨fun _ _ => eqC_mpB, ?_⟩)) ?_ (fun _ _ => trivial) ?_
      · refine eqC_bts (eqC_bts (eqC_bts (eqC_bts ?_)))
        (repeat first | exact trivial | refine ⟨rfl, ?_⟩ | refine ⟨fun _ _ => ⟨rfl, trivial⟩, ?_⟩ | refine ⟨fun _ _ => trivial, ?_⟩ | refine ⟨by omega, ?_⟩ | refine ⟨fun _ _ => eqC_winS, ?_⟩ | refine ⟨fun _ _ => eqC_winM, ?_⟩ | refine ⟨fun _ _ => eqC_winB, ?_⟩ | refine ⟨fun _ _ => eqC_selfB, ?_⟩ | refine ⟨fun _ _ => eqC_mpB, ?_⟩)
      rintro x hs ⟨rfl, rfl⟩
      have e5 : decide (checkM h ≠ checkM h) = false := decide_eq_false (fun h => h rfl)
      have e6 : decide (checkM h ≠ checkM h) = false := decide_eq_false (fun h => h rfl)
      have e7 : decide (checkM h ≠ (0 : Int)) = true := decide_eq_true (by omega)
      have e8 : decide (checkM h = (0 : Int)) = false := decide_eq_false (by omega)
      (repeat first | refine And.intro (by omega) ?_ | refine And.intro (by decide) ?_ | refine And.intro rfl ?_ | refine And.intro (fun _ => ?_) (fun h => Bool.noConfusion h) | refine And.intro (fun h => Bool.noConfusion h) (fun _ => ?_) | refine And.intro (fun _ => ?_) (fun h => absurd h (by rw [e5]; decide)) | refine And.intro (fun h => absurd h (by rw [e5]; decide)) (fun _ => ?_) | refine And.intro (fun _ => ?_) (fun h => absurd h (by rw [e6]; decide)) | refine And.intro (fun h => absurd h (by rw [e6]; decide)) (fun _ => ?_) | refine And.intro (fun _ => ?_) (fun h => absurd h (by rw [e7]; decide)) | refine And.intro (fun h => absurd h (by rw [e7]; decide)) (fun _ => ?_) | refine And.intro (fun _ => ?_) (fun h => absurd h (by rw [e8]; decide)) | refine And.intro (fun h => absurd h (by rw [e8]; decide)) (fun _ => ?_))
      refine ⟨none, [], [(0, true), (1, true), (2, true), (3, true), (4, true), (5, true), (6, true), (7, true), (8, true), (9, true), (10, true), (11, true), (12, true), (13, true), (14, true), (15, true), (16, true), (17, true), (18, true), (19, false), (20, true), (21, true), (22, true)], [], by kernel_rfl, ?_⟩
      (repeat first | refine And.intro (by omega) ?_ | refine And.intro (by decide) ?_ | refine And.intro rfl ?_ | refine And.intro (fun _ => ?_) (fun h => Bool.noConfusion h) | refine And.intro (fun h => Bool.noConfusion h) (fun _ => ?_) | refine And.intro (fun _ => ?_) (fun h => absurd h (by rw [e5]; decide)) | refine And.intro (fun h => absurd h (by rw [e5]; decide)) (fun _ => ?_) | refine And.intro (fun _ => ?_) (fun h => absurd h (by rw [e6]; decide)) | refine And.intro (fun h => absurd h (by rw [e6]; decide)) (fun _ => ?_) | refine And.intro (fun _ => ?_) (fun h => absurd h (by rw [e7]; decide)) | refine And.intro (fun h => absurd h (by rw [e7]; decide)) (fun _ => ?_) | refine And.intro (fun _ => ?_) (fun h => absurd h (by rw [e8]; decide)) | refine And.intro (fun h => absurd h (by rw [e8]; decide)) (fun _ => ?_))
      refine ⟨k + 1, [0, 1, 2, 3, 4, 5, 6, 7, 8], ⟨⟨rfl, rfl, rfl⟩, ?_⟩, by omega, by dsimp only; omega⟩
      (repeat first | exact trivial | refine ⟨rfl, ?_⟩ | refine ⟨fun _ _ => ⟨rfl, trivial⟩, ?_⟩ | refine ⟨fun _ _ => trivial, ?_⟩ | refine ⟨by omega, ?_⟩ | refine ⟨fun _ _ => eqC_winS, ?_⟩ | refine ⟨fun _ _ => eqC_winM, ?_⟩ | refine ⟨fun _ _ => eqC_winB, ?_⟩ | refine ⟨fun _ _ => eqC_selfB, ?_⟩ | refine ⟨fun _ _ => eqC_mpB, ?_⟩)
      refine eqC_bts (eqC_bts (eqC_bts (eqC_bts ?_)))
      (repeat first | exact trivial | refine ⟨rfl, ?_⟩ | refine ⟨fun _ _ => ⟨rfl, trivial⟩, ?_⟩ | refine ⟨fun _ _ => trivial, ?_⟩ | refine ⟨by omega, ?_⟩ | refine ⟨fun _ _ => eqC_winS, ?_⟩ | refine ⟨fun _ _ => eqC_winM, ?_⟩ | refine ⟨fun _ _ => eqC_winB, ?_⟩ | refine ⟨fun _ _ => eqC_selfB, ?_⟩ | refine ⟨fun _ _ => eqC_mpB, ?_⟩)
      refine eqC_bts ?_
      refine ⟨rfl, fun j hj => ?_, ?_⟩
      · rcases lt12 hj with rfl | rfl | rfl | rfl | rfl | rfl | rfl | rfl | rfl | rfl | rfl | rfl <;> (repeat first | exact trivial | refine ⟨rfl, ?_⟩ | refine ⟨fun _ _ => ⟨rfl, trivial⟩, ?_⟩ | refine ⟨fun _ _ => trivial, ?_⟩ | refine ⟨by omega, ?_⟩ | refine ⟨fun _ _ => eqC_winS, ?_⟩ | refine ⟨fun _ _ => eqC_winM, ?_⟩ | refine ⟨fun _ _ => eqC_winB, ?_⟩ | refine ⟨fun _ _ => eqC_selfB, ?_⟩ | refine ⟨fun _ _ => eqC_mpB, ?_⟩)
      (repeat first | exact trivial | refine ⟨rfl, ?_⟩ | refine ⟨fun _ _ => ⟨rfl, trivial⟩, ?_⟩ | refine ⟨fun _ _ => trivial, ?_⟩ | refine ⟨by omega, ?_⟩ | refine ⟨fun _ _ => eqC_winS, ?_⟩ | refine ⟨fun _ _ => eqC_winM, ?_⟩ | refine ⟨fun _ _ => eqC_winB, ?_⟩ | refine ⟨fun _ _ => eqC_selfB, ?_⟩ | refine ⟨fun _ _ => eqC_mpB, ?_⟩)
      refine ⟨fun j hj => ?_, trivial⟩
      rcases lt2' hj with rfl | rfl <;> exact ⟨rfl, trivial⟩
    have e1 : decide (checkM h = 0) = true := decide_eq_true h0
    by_cases h1 : n < 0
    · have hE : putE h n = 2 := by unfold putE; rw [if_neg (by omega), if_pos (.inl h1)]
      obtain ⟨rfl, rfl⟩ := hx1 (by rw [hE]; decide)
      clear hx1 hx2
      rw [hE]
      have e2 : decide (n < 0) = true := decide_eq_true h1
      (repeat first | refine And.intro (by omega) ?_ | refine And.intro (by decide) ?_ | refine And.intro rfl ?_ | refine And.intro (fun _ => ?_) (fun h => Bool.noConfusion h) | refine And.intro (fun h => Bool.noConfusion h) (fun _ => ?_) | refine And.intro (fun _ => ?_) (fun h => absurd h (by rw [e1]; decide)) | refine And.intro (fun h => absurd h (by rw [e1]; decide)) (fun _ => ?_) | refine And.intro (fun _ => ?_) (fun h => absurd h (by rw [e2]; decide)) | refine And.intro (fun h => absurd h (by rw [e2]; decide)) (fun _ => ?_))
      refine ⟨none, [], [(0, true), (2, true), (1, false), (3, false), (4, true), (5, true), (6, true), (7, true), (8, true), (9, true), (10, true), (11, true), (12, true), (13, true), (14, true), (15, true), (16, true), (17, true), (18, true)], [], by kernel_rfl, ?_⟩
      (repeat first | refine And.intro (by omega) ?_ | refine And.intro (by decide) ?_ | (with_reducible refine frc_parts (by first | omega | decide) ?_) | (with_reducible refine frc_bytesL (by first | omega | decide) ?_) | refine And.intro rfl ?_)
      refine call_same (fn_hcheck h) [0, 1, 2, 3] rfl (by (repeat first | exact trivial | refine ⟨rfl, ?_⟩ | refine ⟨fun _ _ => ⟨rfl, trivial⟩, ?_⟩ | refine ⟨fun _ _ => trivial, ?_⟩ | refine ⟨by omega, ?_⟩ | refine ⟨fun _ _ => eqC_winS, ?_⟩ | refine ⟨fun _ _ => eqC_winM, ?_⟩ | refine ⟨fun _ _ => eqC_winB, ?_⟩ | refine ⟨fun _ _ => eqC_selfB, ?_⟩ | refine ⟨fun _ _ => eqC_mpB, ?_⟩)) ?_ (fun _ _ => trivial) ?_
      · refine eqC_bts (eqC_bts (eqC_bts (eqC_bts ?_)))
        (repeat first | exact trivial | refine ⟨rfl, ?_⟩ | refine ⟨fun _ _ => ⟨rfl, trivial⟩, ?_⟩ | refine ⟨fun _ _ => trivial, ?_⟩ | refine ⟨by omega, ?_⟩ | refine ⟨fun _ _ => eqC_winS, ?_⟩ | refine ⟨fun _ _ => eqC_winM, ?_⟩ | refine ⟨fun _ _ => eqC_winB, ?_⟩ | refine ⟨fun _ _ => eqC_selfB, ?_⟩ | refine ⟨fun _ _ => eqC_mpB, ?_⟩)
      rintro x hs ⟨rfl, rfl⟩
      (repeat first | refine And.intro (by omega) ?_ | refine And.intro (by decide) ?_ | (with_reducible refine frc_parts (by first | omega | decide) ?_) | (with_reducible refine frc_bytesL (by first | omega | decide) ?_) | refine And.intro rfl ?_)
      refine call_same (fn_lcheck h) [0, 1, 2, 3] rfl (by (repeat first | exact trivial | refine ⟨rfl, ?_⟩ | refine ⟨fun _ _ => ⟨rfl, trivial⟩, ?_⟩ | refine ⟨fun _ _ => trivial, ?_⟩ | refine ⟨by omega, ?_⟩ | refine ⟨fun _ _ => eqC_winS, ?_⟩ | refine ⟨fun _ _ => eqC_winM, ?_⟩ | refine ⟨fun _ _ => eqC_winB, ?_⟩ | refine ⟨fun _ _ => eqC_selfB, ?_⟩ | refine ⟨fun _ _ => eqC_mpB, ?_⟩)) ?_ (fun _ _ => trivial) ?_
      · refine eqC_bts (eqC_bts (eqC_bts (eqC_bts ?_)))
        (repeat first | exact trivial | refine ⟨rfl, ?_⟩ | refine ⟨fun _ _ => ⟨rfl, trivial⟩, ?_⟩ | refine ⟨fun _ _ => trivial, ?_⟩ | refine ⟨by omega, ?_⟩ | refine ⟨fun _ _ => eqC_winS, ?_⟩ | refine ⟨fun _ _ => eqC_winM, ?_⟩ | refine ⟨fun _ _ => eqC_winB, ?_⟩ | refine ⟨fun _ _ => eqC_selfB, ?_⟩ | refine ⟨fun _ _ => eqC_mpB, ?_⟩)
      rintro x hs ⟨rfl, rfl⟩
      have e5 : decide (checkM h ≠ checkM h) = false := decide_eq_false (fun h => h rfl)
      have e6 : decide ((2 : Int) ≠ (2 : Int)) = false := decide_eq_false (fun h => h rfl)
      have e7 : decide ((2 : Int) ≠ (0 : Int)) = true := decide_eq_true (by omega)
      have e8 : decide ((2 : Int) = (0 : Int)) = false := decide_eq_false (by omega)
      (repeat first | refine And.intro (by omega) ?_ | refine And.intro (by decide) ?_ | refine And.intro rfl ?_ | refine And.intro (fun _ => ?_) (fun h => Bool.noConfusion h) | refine And.intro (fun h => Bool.noConfusion h) (fun _ => ?_) | refine And.intro (fun _ => ?_) (fun h => absurd h (by rw [e5]; decide)) | refine And.intro (fun h => absurd h (by rw [e5]; decide)) (fun _ => ?_) | refine And.intro (fun _ => ?_) (fun h => absurd h (by rw [e6]; decide)) | refine And.intro (fun h => absurd h (by rw [e6]; decide)) (fun _ => ?_) | refine And.intro (fun _ => ?_) (fun h => absurd h (by rw [e7]; decide)) | refine And.intro (fun h => absurd h (by rw [e7]; decide)) (fun _ => ?_) | refine And.intro (fun _ => ?_) (fun h => absurd h (by rw [e8]; decide)) | refine And.intro (fun h => absurd h (by rw [e8]; decide)) (fun _ => ?_))
      refine ⟨none, [], [(0, true), (1, true), (2, true), (3, true), (4, true), (5, true), (6, true), (7, true), (8, true), (9, true), (10, true), (11, true), (12, true), (13, true), (14, true), (15, true), (16, true), (17, true), (18, true), (19, false), (20, true), (21, true), (22, true)], [], by kernel_rfl, ?_⟩
      (repeat first | refine And.intro (by omega) ?_ | refine And.intro (by decide) ?_ | refine And.intro rfl ?_ | refine And.intro (fun _ => ?_) (fun h => Bool.noConfusion h) | refine And.intro (fun h => Bool.noConfusion h) (fun _ => ?_) | refine And.intro (fun _ => ?_) (fun h => absurd h (by rw [e5]; decide)) | refine And.intro (fun h => absurd h (by rw [e5]; decide)) (fun _ => ?_) | refine And.intro (fun _ => ?_) (fun h => absurd h (by rw [e6]; decide)) | refine And.intro (fun h => absurd h (by rw [e6]; decide)) (fun _ => ?_) | refine And.intro (fun _ => ?_) (fun h => absurd h (by rw [e7]; decide)) | refine And.intro (fun h => absurd h (by rw [e7]; decide)) (fun _ => ?_) | refine And.intro (fun _ => ?_) (fun h => absurd h (by rw [e8]; decide)) | refine And.intro (fun h => absurd h (by rw [e8]; decide)) (fun _ => ?_))
      refine ⟨k + 1, [0, 1, 2, 3, 4, 5, 6, 7, 8], ⟨⟨rfl, rfl, rfl⟩, ?_⟩, by omega, by dsimp only; omega⟩
      (repeat first | exact trivial | refine ⟨rfl, ?_⟩ | refine ⟨fun _ _ => ⟨rfl, trivial⟩, ?_⟩ | refine ⟨fun _ _ => trivial, ?_⟩ | refine ⟨by omega, ?_⟩ | refine ⟨fun _ _ => eqC_winS, ?_⟩ | refine ⟨fun _ _ => eqC_winM, ?_⟩ | refine ⟨fun _ _ => eqC_winB, ?_⟩ | refine ⟨fun _ _ => eqC_selfB, ?_⟩ | refine ⟨fun _ _ => eqC_mpB, ?_⟩)
      refine eqC_bts (eqC_bts (eqC_bts (eqC_bts ?_)))
      (repeat first | exact trivial | refine ⟨rfl, ?_⟩ | refine ⟨fun _ _ => ⟨rfl, trivial⟩, ?_⟩ | refine ⟨fun _ _ => trivial, ?_⟩ | refine ⟨by omega, ?_⟩ | refine ⟨fun _ _ => eqC_winS, ?_⟩ | refine ⟨fun _ _ => eqC_winM, ?_⟩ | refine ⟨fun _ _ => eqC_winB, ?_⟩ | refine ⟨fun _ _ => eqC_selfB, ?_⟩ | refine ⟨fun _ _ => eqC_mpB, ?_⟩)
      refine eqC_bts ?_
      refine ⟨rfl, fun j hj => ?_, ?_⟩
      · rcases lt12 hj with rfl | rfl | rfl | rfl | rfl | rfl | rfl | rfl | rfl | rfl | rfl | rfl <;> (repeat first | exact trivial | refine ⟨rfl, ?_⟩ | refine ⟨fun _ _ => ⟨rfl, trivial⟩, ?_⟩ | refine ⟨fun _ _ => trivial, ?_⟩ | refine ⟨by omega, ?_⟩ | refine ⟨fun _ _ => eqC_winS, ?_⟩ | refine ⟨fun _ _ => eqC_winM, ?_⟩ | refine ⟨fun _ _ => eqC_winB, ?_⟩ | refine ⟨fun _ _ => eqC_selfB, ?_⟩ | refine ⟨fun _ _ => eqC_mpB, ?_⟩)
      (repeat first | exact trivial | refine ⟨rfl, ?_⟩ | refine ⟨fun _ _ => ⟨rfl, trivial⟩, ?_⟩ | refine ⟨fun _ _ => trivial, ?_⟩ | refine ⟨by omega, ?_⟩ | refine ⟨fun _ _ => eqC_winS, ?_⟩ | refine ⟨fun _ _ => eqC_winM, ?_⟩ | refine ⟨fun _ _ => eqC_winB, ?_⟩ | refine ⟨fun _ _ => eqC_selfB, ?_⟩ | refine ⟨fun _ _ => eqC_mpB, ?_⟩)
      refine ⟨fun j hj => ?_, trivial⟩
      rcases lt2' hj with rfl | rfl <;> exact ⟨rfl, trivial⟩
    have e2 : decide (n < 0) = false := decide_eq_false h1
    by_cases h2 : 1200 < n
    · have hE : putE h n = 2 := by unfold putE; rw [if_neg (by omega), if_pos (.inr h2)]
      obtain ⟨rfl, rfl⟩ := hx1 (by rw [hE]; decide)
      clear hx1 hx2
      rw [hE]
      have e3 : decide (1200 < n) = true := decide_eq_true h2
      (repeat first | refine And.intro (by omega) ?_ | refine And.intro (by decide) ?_ | refine And.intro rfl ?_ | refine And.intro (fun _ => ?_) (fun h => Bool.noConfusion h) | refine And.intro (fun h => Bool.noConfusion h) (fun _ => ?_) | refine And.intro (fun _ => ?_) (fun h => absurd h (by rw [e1]; decide)) | refine And.intro (fun h => absurd h (by rw [e1]; decide)) (fun _ => ?_) | refine And.intro (fun _ => ?_) (fun h => absurd h (by rw [e2]; decide)) | refine And.intro (fun h => absurd h (by rw [e2]; decide)) (fun _ => ?_) | refine And.intro (fun _ => ?_) (fun h => absurd h (by rw [e3]; decide)) | refine And.intro (fun h => absurd h (by rw [e3]; decide)) (fun _ => ?_))
      refine ⟨none, [], [(0, true), (2, true), (1, false), (3, false), (4, true), (5, true), (6, true), (7, true), (8, true), (9, true), (10, true), (11, true), (12, true), (13, true), (14, true), (15, true), (16, true), (17, true), (18, true)], [], by kernel_rfl, ?_⟩
      (repeat first | refine And.intro (by omega) ?_ | refine And.intro (by decide) ?_ | (with_reducible refine frc_parts (by first | omega | decide) ?_) | (with_reducible refine frc_bytesL (by first | omega | decide) ?_) | refine And.intro rfl ?_)
      refine call_same (fn_hcheck h) [0, 1, 2, 3] rfl (by (repeat first | exact trivial | refine ⟨rfl, ?_⟩ | refine ⟨fun _ _ => ⟨rfl, trivial⟩, ?_⟩ | refine ⟨fun _ _ => trivial, ?_⟩ | refine ⟨by omega, ?_⟩ | refine ⟨fun _ _ => eqC_winS, ?_⟩ | refine ⟨fun _ _ => eqC_winM, ?_⟩ | refine ⟨fun _ _ => eqC_winB, ?_⟩ | refine ⟨fun _ _ => eqC_selfB, ?_⟩ | refine ⟨fun _ _ => eqC_mpB, ?_⟩)) ?_ (fun _ _ => trivial) ?_
      · refine eqC_bts (eqC_bts (eqC_bts (eqC_bts ?_)))
        (repeat first | exact trivial | refine ⟨rfl, ?_⟩ | refine ⟨fun _ _ => ⟨rfl, trivial⟩, ?_⟩ | refine ⟨fun _ _ => trivial, ?_⟩ | refine ⟨by omega, ?_⟩ | refine ⟨fun _ _ => eqC_winS, ?_⟩ | refine ⟨fun _ _ => eqC_winM, ?_⟩ | refine ⟨fun _ _ => eqC_winB, ?_⟩ | refine ⟨fun _ _ => eqC_selfB, ?_⟩ | refine ⟨fun _ _ => eqC_mpB, ?_⟩)
      rintro x hs ⟨rfl, rfl⟩
      (repeat first | refine And.intro (by omega) ?_ | refine And.intro (by decide) ?_ | (with_reducible refine frc_parts (by first | omega | decide) ?_) | (with_reducible refine frc_bytesL (by first | omega | decide) ?_) | refine And.intro rfl ?_)
      refine call_same (fn_lcheck h) [0, 1, 2, 3] rfl (by (repeat first | exact trivial | refine ⟨rfl, ?_⟩ | refine ⟨fun _ _ => ⟨rfl, trivial⟩, ?_⟩ | refine ⟨fun _ _ => trivial, ?_⟩ | refine ⟨by omega, ?_⟩ | refine ⟨fun _ _ => eqC_winS, ?_⟩ | refine ⟨fun _ _ => eqC_winM, ?_⟩ | refine ⟨fun _ _ => eqC_winB, ?_⟩ | refine ⟨fun _ _ => eqC_selfB, ?_⟩ | refine ⟨fun _ _ => eqC_mpB, ?_⟩)) ?_ (fun _ _ => trivial) ?_
      · refine eqC_bts (eqC_bts (eqC_bts (eqC_bts ?_)))
        (repeat first | exact trivial | refine ⟨rfl, ?_⟩ | refine ⟨fun _ _ => ⟨rfl, trivial⟩, ?_⟩ | refine ⟨fun _ _ => trivial, ?_⟩ | refine ⟨by omega, ?_⟩ | refine ⟨fun _ _ => eqC_winS, ?_⟩ | refine ⟨fun _ _ => eqC_winM, ?_⟩ | refine ⟨fun _ _ => eqC_winB, ?_⟩ | refine ⟨fun _ _ => eqC_selfB, ?_⟩ | refine ⟨fun _ _ => eqC_mpB, ?_⟩)
      rintro x hs ⟨rfl, rfl⟩
      have e5 : decide (checkM h ≠ checkM h) = false := decide_eq_false (fun h => h rfl)
      have e6 : decide ((2 : Int) ≠ (2 : Int)) = false := decide_eq_false (fun h => h rfl)
      have e7 : decide ((2 : Int) ≠ (0 : Int)) = true := decide_eq_true (by omega)
      have e8 : decide ((2 : Int) = (0 : Int)) = false := decide_eq_false (by omega)
      (repeat first | refine And.intro (by omega) ?_ | refine And.intro (by decide) ?_ | refine And.intro rfl ?_ | refine And.intro (fun _ => ?_) (fun h => Bool.noConfusion h) | refine And.intro (fun h => Bool.noConfusion h) (fun _ => ?_) | refine And.intro (fun _ => ?_) (fun h => absurd h (by rw [e5]; decide)) | refine And.intro (fun h => absurd h (by rw [e5]; decide)) (fun _ => ?_) | refine And.intro (fun _ => ?_) (fun h => absurd h (by rw [e6]; decide)) | refine And.intro (fun h => absurd h (by rw [e6]; decide)) (fun _ => ?_) | refine And.intro (fun _ => ?_) (fun h => absurd h (by rw [e7]; decide)) | refine And.intro (fun h => absurd h (by rw [e7]; decide)) (fun _ => ?_) | refine And.intro (fun _ => ?_) (fun h => absurd h (by rw [e8]; decide)) | refine And.intro (fun h => absurd h (by rw [e8]; decide)) (fun _ => ?_))
      refine ⟨none, [], [(0, true), (1, true), (2, true), (3, true), (4, true), (5, true), (6, true), (7, true), (8, true), (9, true), (10, true), (11, true), (12, true), (13, true), (14, true), (15, true), (16, true), (17, true), (18, true), (19, false), (20, true), (21, true), (22, true)], [], by kernel_rfl, ?_⟩
      (repeat first | refine And.intro (by omega) ?_ | refine And.intro (by decide) ?_ | refine And.intro rfl ?_ | refine And.intro (fun _ => ?_) (fun h => Bool.noConfusion h) | refine And.intro (fun h => Bool.noConfusion h) (fun _ => ?_) | refine And.intro (fun _ => ?_) (fun h => absurd h (by rw [e5]; decide)) | refine And.intro (fun h => absurd h (by rw [e5]; decide)) (fun _ => ?_) | refine And.intro (fun _ => ?_) (fun h => absurd h (by rw [e6]; decide)) | refine And.intro (fun h => absurd h (by rw [e6]; decide)) (fun _ => ?_) | refine And.intro (fun _ => ?_) (fun h => absurd h (by rw [e7]; decide)) | refine And.intro (fun h => absurd h (by rw [e7]; decide)) (fun _ => ?_) | refine And.intro (fun _ => ?_) (fun h => absurd h (by rw [e8]; decide)) | refine And.intro (fun h => absurd h (by rw [e8]; decide)) (fun _ => ?_))
      refine ⟨k + 1, [0, 1, 2, 3, 4, 5, 6, 7, 8], ⟨⟨rfl, rfl, rfl⟩, ?_⟩, by omega, by dsimp only; omega⟩
      (repeat first | exact trivial | refine ⟨rfl, ?_⟩ | refine ⟨fun _ _ => ⟨rfl, trivial⟩, ?_⟩ | refine ⟨fun _ _ => trivial, ?_⟩ | refine ⟨by omega, ?_⟩ | refine ⟨fun _ _ => eqC_winS, ?_⟩ | refine ⟨fun _ _ => eqC_winM, ?_⟩ | refine ⟨fun _ _ => eqC_winB, ?_⟩ | refine ⟨fun _ _ => eqC_selfB, ?_⟩ | refine ⟨fun _ _ => eqC_mpB, ?_⟩)
      refine eqC_bts (eqC_bts (eqC_bts (eqC_bts ?_)))
      (repeat first | exact trivial | refine ⟨rfl, ?_⟩ | refine ⟨fun _ _ => ⟨rfl, trivial⟩, ?_⟩ | refine ⟨fun _ _ => trivial, ?_⟩ | refine ⟨by omega, ?_⟩ | refine ⟨fun _ _ => eqC_winS, ?_⟩ | refine ⟨fun _ _ => eqC_winM, ?_⟩ | refine ⟨fun _ _ => eqC_winB, ?_⟩ | refine ⟨fun _ _ => eqC_selfB, ?_⟩ | refine ⟨fun _ _ => eqC_mpB, ?_⟩)
      refine eqC_bts ?_
      refine ⟨rfl, fun j hj => ?_, ?_⟩
      · rcases lt12 hj with rfl | rfl | rfl | rfl | rfl | rfl | rfl | rfl | rfl | rfl | rfl | rfl <;> (repeat first | exact trivial | refine ⟨rfl, ?_⟩ | refine ⟨fun _ _ => ⟨rfl, trivial⟩, ?_⟩ | refine ⟨fun _ _ => trivial, ?_⟩ | refine ⟨by omega, ?_⟩ | refine ⟨fun _ _ => eqC_winS, ?_⟩ | refine ⟨fun _ _ => eqC_winM, ?_⟩ | refine ⟨fun _ _ => eqC_winB, ?_⟩ | refine ⟨fun _ _ => eqC_selfB, ?_⟩ | refine ⟨fun _ _ => eqC_mpB, ?_⟩)
      (repeat first | exact trivial | refine ⟨rfl, ?_⟩ | refine ⟨fun _ _ => ⟨rfl, trivial⟩, ?_⟩ | refine ⟨fun _ _ => trivial, ?_⟩ | refine ⟨by omega, ?_⟩ | refine ⟨fun _ _ => eqC_winS, ?_⟩ | refine ⟨fun _ _ => eqC_winM, ?_⟩ | refine ⟨fun _ _ => eqC_winB, ?_⟩ | refine ⟨fun _ _ => eqC_selfB, ?_⟩ | refine ⟨fun _ _ => eqC_mpB, ?_⟩)
      refine ⟨fun j hj => ?_, trivial⟩
      rcases lt2' hj with rfl | rfl <;> exact ⟨rfl, trivial⟩
    have e3 : decide (1200 < n) = false := decide_eq_false h2
    have hE : putE h n = 0 := by unfold putE; rw [if_neg (by omega), if_neg (by omega)]
    obtain ⟨c, hc, rfl, rfl⟩ := hx2 hE
    clear hx1 hx2
    (repeat first | refine And.intro (by omega) ?_ | refine And.intro (by decide) ?_ | refine And.intro rfl ?_ | refine And.intro (fun _ => ?_) (fun h => Bool.noConfusion h) | refine And.intro (fun h => Bool.noConfusion h) (fun _ => ?_) | refine And.intro (fun _ => ?_) (fun h => absurd h (by rw [e1]; decide)) | refine And.intro (fun h => absurd h (by rw [e1]; decide)) (fun _ => ?_) | refine And.intro (fun _ => ?_) (fun h => absurd h (by rw [e2]; decide)) | refine And.intro (fun h => absurd h (by rw [e2]; decide)) (fun _ => ?_) | refine And.intro (fun _ => ?_) (fun h => absurd h (by rw [e3]; decide)) | refine And.intro (fun h => absurd h (by rw [e3]; decide)) (fun _ => ?_))
    refine ⟨none, [], [(0, true), (2, true), (1, false), (3, false), (4, true), (5, true), (6, true), (7, true), (8, true), (9, true), (10, true), (11, true), (12, true), (13, true), (14, true), (15, true), (16, true), (17, true), (18, true)], [], by kernel_rfl, ?_⟩
    (repeat first | refine And.intro (by omega) ?_ | refine And.intro (by decide) ?_ | (with_reducible refine frc_parts (by first | omega | decide) ?_) | (with_reducible refine frc_bytesL (by first | omega | decide) ?_) | refine And.intro rfl ?_)
    refine call_same (fn_hcheck h) [0, 1, 2, 3] rfl (by (repeat first | exact trivial | refine ⟨rfl, ?_⟩ | refine ⟨fun _ _ => ⟨rfl, trivial⟩, ?_⟩ | refine ⟨fun _ _ => trivial, ?_⟩ | refine ⟨by omega, ?_⟩ | refine ⟨fun _ _ => eqC_winS, ?_⟩ | refine ⟨fun _ _ => eqC_winM, ?_⟩ | refine ⟨fun _ _ => eqC_winB, ?_⟩ | refine ⟨fun _ _ => eqC_selfB, ?_⟩ | refine ⟨fun _ _ => eqC_mpB, ?_⟩)) ?_ (fun _ _ => trivial) ?_
    · refine eqC_bts (eqC_bts (eqC_bts (eqC_bts ?_)))
      (repeat first | exact trivial | refine ⟨rfl, ?_⟩ | refine ⟨fun _ _ => ⟨rfl, trivial⟩, ?_⟩ | refine ⟨fun _ _ => trivial, ?_⟩ | refine ⟨by omega, ?_⟩ | refine ⟨fun _ _ => eqC_winS, ?_⟩ | refine ⟨fun _ _ => eqC_winM, ?_⟩ | refine ⟨fun _ _ => eqC_winB, ?_⟩ | refine ⟨fun _ _ => eqC_selfB, ?_⟩ | refine ⟨fun _ _ => eqC_mpB, ?_⟩)
    rintro x hs ⟨rfl, rfl⟩
    (repeat first | refine And.intro (by omega) ?_ | refine And.intro (by decide) ?_ | (with_reducible refine frc_parts (by first | omega | decide) ?_) | (with_reducible refine frc_bytesL (by first | omega | decide) ?_) | refine And.intro rfl ?_)
    refine call_same (fn_lcheck h) [0, 1, 2, 3] rfl (by (repeat first | exact trivial | refine ⟨rfl, ?_⟩ | refine ⟨fun _ _ => ⟨rfl, trivial⟩, ?_⟩ | refine ⟨fun _ _ => trivial, ?_⟩ | refine ⟨by omega, ?_⟩ | refine ⟨fun _ _ => eqC_winS, ?_⟩ | refine ⟨fun _ _ => eqC_winM, ?_⟩ | refine ⟨fun _ _ => eqC_winB, ?_⟩ | refine ⟨fun _ _ => eqC_selfB, ?_⟩ | refine ⟨fun _ _ => eqC_mpB, ?_⟩)) ?_ (fun _ _ => trivial) ?_
    · refine eqC_bts (eqC_bts (eqC_bts (eqC_bts ?_)))
      (repeat first | exact trivial | refine ⟨rfl, ?_⟩ | refine ⟨fun _ _ => ⟨rfl, trivial⟩, ?_⟩ | refine ⟨fun _ _ => trivial, ?_⟩ | refine ⟨by omega, ?_⟩ | refine ⟨fun _ _ => eqC_winS, ?_⟩ | refine ⟨fun _ _ => eqC_winM, ?_⟩ | refine ⟨fun _ _ => eqC_winB, ?_⟩ | refine ⟨fun _ _ => eqC_selfB, ?_⟩ | refine ⟨fun _ _ => eqC_mpB, ?_⟩)
    rintro x hs ⟨rfl, rfl⟩
    have e5 : decide (checkM h ≠ checkM h) = false := decide_eq_false (fun h => h rfl)
    have e6 : decide ((0 : Int) ≠ checkM h) = false := decide_eq_false (by omega)
    (repeat first | refine And.intro (by omega) ?_ | refine And.intro (by decide) ?_ | refine And.intro rfl ?_ | refine And.intro (fun _ => ?_) (fun h => Bool.noConfusion h) | refine And.intro (fun h => Bool.noConfusion h) (fun _ => ?_) | refine And.intro (fun _ => ?_) (fun h => absurd h (by rw [e5]; decide)) | refine And.intro (fun h => absurd h (by rw [e5]; decide)) (fun _ => ?_) | refine And.intro (fun _ => ?_) (fun h => absurd h (by rw [e6]; decide)) | refine And.intro (fun h => absurd h (by rw [e6]; decide)) (fun _ => ?_))
    refine ⟨none, [], [(0, true), (1, true), (2, true), (3, true), (4, true), (5, true), (6, true), (7, true), (8, true), (9, true), (10, true), (11, true), (12, true), (13, true), (14, true), (15, true), (16, true), (17, true), (18, true), (19, false), (20, true), (21, true), (22, true)], [], by kernel_rfl, ?_⟩
    (repeat first | refine And.intro (by omega) ?_ | refine And.intro (by decide) ?_ | refine And.intro rfl ?_ | refine And.intro (fun _ => ?_) (fun h => Bool.noConfusion h) | refine And.intro (fun h => Bool.noConfusion h) (fun _ => ?_) | refine And.intro (fun _ => ?_) (fun h => absurd h (by rw [e5]; decide)) | refine And.intro (fun h => absurd h (by rw [e5]; decide)) (fun _ => ?_) | refine And.intro (fun _ => ?_) (fun h => absurd h (by rw [e6]; decide)) | refine And.intro (fun h => absurd h (by rw [e6]; decide)) (fun _ => ?_))
    refine ⟨by show 0 + (putH h n.toNat).length ≤ c; rw [Nat.zero_add]; exact hc, U8 (putH h n.toNat), str_of rfl (fun q hq => mp_row q hq), ?_⟩
    (repeat first | refine And.intro (by omega) ?_ | refine And.intro (by decide) ?_ | refine And.intro rfl ?_ | refine And.intro (fun _ => ?_) (fun h => Bool.noConfusion h) | refine And.intro (fun h => Bool.noConfusion h) (fun _ => ?_) | refine And.intro (fun _ => ?_) (fun h => absurd h (by rw [e5]; decide)) | refine And.intro (fun h => absurd h (by rw [e5]; decide)) (fun _ => ?_) | refine And.intro (fun _ => ?_) (fun h => absurd h (by rw [e6]; decide)) | refine And.intro (fun h => absurd h (by rw [e6]; decide)) (fun _ => ?_))
    refine call_same (fn_qheader h ho h0 n.toNat (by omega)) [0, 1, 2, 3] rfl ?_ ?_ (fun _ _ => trivial) ?_
    · (repeat first | exact trivial | refine ⟨rfl, ?_⟩ | refine ⟨fun _ _ => ⟨rfl, trivial⟩, ?_⟩ | refine ⟨fun _ _ => trivial, ?_⟩ | refine ⟨by omega, ?_⟩ | refine ⟨fun _ _ => eqC_winS, ?_⟩ | refine ⟨fun _ _ => eqC_winM, ?_⟩ | refine ⟨fun _ _ => eqC_winB, ?_⟩ | refine ⟨fun _ _ => eqC_selfB, ?_⟩ | refine ⟨fun _ _ => eqC_mpB, ?_⟩)
    · refine eqC_bts (eqC_bts (eqC_bts (eqC_bts ?_)))
      (repeat first | exact trivial | refine ⟨rfl, ?_⟩ | refine ⟨fun _ _ => ⟨rfl, trivial⟩, ?_⟩ | refine ⟨fun _ _ => trivial, ?_⟩ | refine ⟨by omega, ?_⟩ | refine ⟨fun _ _ => eqC_winS, ?_⟩ | refine ⟨fun _ _ => eqC_winM, ?_⟩ | refine ⟨fun _ _ => eqC_winB, ?_⟩ | refine ⟨fun _ _ => eqC_selfB, ?_⟩ | refine ⟨fun _ _ => eqC_mpB, ?_⟩)
    rintro x hs ⟨c2, hc2, rfl, rfl⟩
    (repeat first | refine And.intro (by omega) ?_ | refine And.intro (by decide) ?_ | refine And.intro rfl ?_ | refine And.intro (fun _ => ?_) (fun h => Bool.noConfusion h) | refine And.intro (fun h => Bool.noConfusion h) (fun _ => ?_))
    refine ⟨by show 0 + (putH h n.toNat).length ≤ c2; rw [Nat.zero_add]; exact hc2, U8 (putH h n.toNat), str_of rfl (fun q hq => mp_row q hq), ?_⟩
    have e9 : decide (U8 (putH h n.toNat) = U8 (putH h n.toNat)) = true := decide_eq_true rfl
    have e10 : (!decide (U8 (putH h n.toNat) = U8 (putH h n.toNat))) = false := by rw [e9]; rfl
    (repeat first | refine And.intro (by omega) ?_ | refine And.intro (by decide) ?_ | refine And.intro rfl ?_ | refine And.intro (fun _ => ?_) (fun h => Bool.noConfusion h) | refine And.intro (fun h => Bool.noConfusion h) (fun _ => ?_) | refine And.intro (fun _ => ?_) (fun h => absurd h (by rw [e10]; decide)) | refine And.intro (fun h => absurd h (by rw [e10]; decide)) (fun _ => ?_))
    refine ⟨k + 1, [0, 1, 2, 3, 4, 5, 6, 7, 8], ⟨⟨rfl, rfl, rfl⟩, ?_⟩, by omega, by dsimp only; omega⟩
    (repeat first | exact trivial | refine ⟨rfl, ?_⟩ | refine ⟨fun _ _ => ⟨rfl, trivial⟩, ?_⟩ | refine ⟨fun _ _ => trivial, ?_⟩ | refine ⟨by omega, ?_⟩ | refine ⟨fun _ _ => eqC_winS, ?_⟩ | refine ⟨fun _ _ => eqC_winM, ?_⟩ | refine ⟨fun _ _ => eqC_winB, ?_⟩ | refine ⟨fun _ _ => eqC_selfB, ?_⟩ | refine ⟨fun _ _ => eqC_mpB, ?_⟩)
    refine eqC_bts (eqC_bts (eqC_bts (eqC_bts ?_)))
    (repeat first | exact trivial | refine ⟨rfl, ?_⟩ | refine ⟨fun _ _ => ⟨rfl, trivial⟩, ?_⟩ | refine ⟨fun _ _ => trivial, ?_⟩ | refine ⟨by omega, ?_⟩ | refine ⟨fun _ _ => eqC_winS, ?_⟩ | refine ⟨fun _ _ => eqC_winM, ?_⟩ | refine ⟨fun _ _ => eqC_winB, ?_⟩ | refine ⟨fun _ _ => eqC_selfB, ?_⟩ | refine ⟨fun _ _ => eqC_mpB, ?_⟩)
    refine eqC_bts ?_
    refine ⟨rfl, fun j hj => ?_, ?_⟩
    · rcases lt12 hj with rfl | rfl | rfl | rfl | rfl | rfl | rfl | rfl | rfl | rfl | rfl | rfl <;> (repeat first | exact trivial | refine ⟨rfl, ?_⟩ | refine ⟨fun _ _ => ⟨rfl, trivial⟩, ?_⟩ | refine ⟨fun _ _ => trivial, ?_⟩ | refine ⟨by omega, ?_⟩ | refine ⟨fun _ _ => eqC_winS, ?_⟩ | refine ⟨fun _ _ => eqC_winM, ?_⟩ | refine ⟨fun _ _ => eqC_winB, ?_⟩ | refine ⟨fun _ _ => eqC_selfB, ?_⟩ | refine ⟨fun _ _ => eqC_mpB, ?_⟩)
    (repeat first | exact trivial | refine ⟨rfl, ?_⟩ | refine ⟨fun _ _ => ⟨rfl, trivial⟩, ?_⟩ | refine ⟨fun _ _ => trivial, ?_⟩ | refine ⟨by omega, ?_⟩ | refine ⟨fun _ _ => eqC_winS, ?_⟩ | refine ⟨fun _ _ => eqC_winM, ?_⟩ | refine ⟨fun _ _ => eqC_winB, ?_⟩ | refine ⟨fun _ _ => eqC_selfB, ?_⟩ | refine ⟨fun _ _ => eqC_mpB, ?_⟩)
    refine ⟨fun j hj => ?_, trivial⟩
    rcases lt2' hj with rfl | rfl <;> exact ⟨rfl, trivial⟩
  · obtain rfl : k = 2 := by have : ¬ (k : Int) < 2 := of_decide_eq_false hlt; have hk : k ≤ 2 := hk; omega
    (repeat first | refine And.intro (by omega) ?_ | refine And.intro (by decide) ?_ | (with_reducible refine frc_parts (by first | omega | decide) ?_) | (with_reducible refine frc_bytesL (by first | omega | decide) ?_) | refine And.intro rfl ?_)
    refine ⟨fun _ => ?_, fun hh => Bool.noConfusion hh⟩
    (repeat first | refine And.intro (by omega) ?_ | refine And.intro (by decide) ?_ | (with_reducible refine frc_parts (by first | omega | decide) ?_) | (with_reducible refine frc_bytesL (by first | omega | decide) ?_) | refine And.intro rfl ?_)
    refine .inl ⟨Nat, fun k => ⟨[.any, .a (.c (.int .i64 (p))), .any, .any, .any, .any, .a (.c (.p 9 0 0)), .any, .any, .any, .any, .any, .any, .any, .any, .any, .any, .any, .any, .any, .a (.c (.sl 6 0 0 2 2)), .a (.c (.int .i64 (2))), .a (.c (.int .i64 (1))), .any, .any, .any, .any, .any, .any, .a (.c (.sl 10 0 0 2 2)), .a (.c (.int .i64 (2))), .a (.c (.int .i64 (↑k))), .any, .any, .any, .any, .any, .any, .any, .any, .any, .any, .any, .any, .any, .any, .any, .any, .any, .any, .any, .any, .any, .any, .any, .any, .any, .any, .any, .any, .any, .any, .any, .any, .any, .any, .any, .any, .any, .any, .any, .any, .any, .any, .any, .any, .any, .any, .any, .any, .any, .any, .any, .any, .any, .any, .any, .any, .any, .any, .any, .any, .any, .any, .any, .any, .any, .any, .any, .any, .any, .any, .any, .any, .any], [svB h.t, svB h.f, svB h.k, svB h.n, [], svB H.n, [], [], [], hdC 0 1 2 5 H, [.row 2 (nthC [.int .i64 p, .int .i64 (p % 1024)])]]⟩, fun k => k ≤ 2, fun k => 2 - k, ⟨0, [0, 1, 2, 3, 4, 5, 6, 7, 8, 9, 10], ⟨⟨rfl, rfl, rfl⟩, ?_⟩, by omega⟩, fun k hk => ⟨fun hlt => ?_, fun hlt => ?_⟩⟩
    · (repeat first | exact trivial | refine ⟨rfl, ?_⟩ | refine ⟨fun _ _ => ⟨rfl, trivial⟩, ?_⟩ | refine ⟨fun _ _ => trivial, ?_⟩ | refine ⟨by omega, ?_⟩ | refine ⟨fun _ _ => eqC_winS, ?_⟩ | refine ⟨fun _ _ => eqC_winM, ?_⟩ | refine ⟨fun _ _ => eqC_winB, ?_⟩ | refine ⟨fun _ _ => eqC_selfB, ?_⟩ | refine ⟨fun _ _ => eqC_mpB, ?_⟩)
      refine eqC_bts (eqC_bts (eqC_bts (eqC_bts ?_)))
      refine eqSegs_nil ?_
      refine eqC_bts ?_
      refine eqSegs_nil (eqSegs_nil (eqSegs_nil ?_))
      (repeat first | exact trivial | refine ⟨rfl, ?_⟩ | refine ⟨fun _ _ => ⟨rfl, trivial⟩, ?_⟩ | refine ⟨fun _ _ => trivial, ?_⟩ | refine ⟨by omega, ?_⟩ | refine ⟨fun _ _ => eqC_winS, ?_⟩ | refine ⟨fun _ _ => eqC_winM, ?_⟩ | refine ⟨fun _ _ => eqC_winB, ?_⟩ | refine ⟨fun _ _ => eqC_selfB, ?_⟩ | refine ⟨fun _ _ => eqC_mpB, ?_⟩)
      refine ⟨fun j hj => ?_, trivial⟩
      rcases lt2' hj with rfl | rfl <;> exact ⟨rfl, trivial⟩
    · have hk2 : k < 2 := by have : (k : Int) < 2 := of_decide_eq_true hlt; omega
      (repeat first | refine And.intro (by omega) ?_ | refine And.intro (by decide) ?_ | (with_reducible refine frc_parts (by first | omega | decide) ?_) | (with_reducible refine frc_bytesL (by first | omega | decide) ?_) | refine And.intro rfl ?_)
      refine frc_eq (pn_at p hk2) ?_
      obtain ⟨n, hn⟩ : ∃ n, pnF p k = n := ⟨_, rfl⟩
      rw [hn]
      (repeat first | refine And.intro (by omega) ?_ | refine And.intro (by decide) ?_ | (with_reducible refine frc_parts (by first | omega | decide) ?_) | (with_reducible refine frc_bytesL (by first | omega | decide) ?_) | refine And.intro rfl ?_)
      refine call_same (fn_lcheck H) [0, 1, 2, 5] rfl (by (repeat first | exact trivial | refine ⟨rfl, ?_⟩ | refine ⟨fun _ _ => ⟨rfl, trivial⟩, ?_⟩ | refine ⟨fun _ _ => trivial, ?_⟩ | refine ⟨by omega, ?_⟩ | refine ⟨fun _ _ => eqC_winS, ?_⟩ | refine ⟨fun _ _ => eqC_winM, ?_⟩ | refine ⟨fun _ _ => eqC_winB, ?_⟩ | refine ⟨fun _ _ => eqC_selfB, ?_⟩ | refine ⟨fun _ _ => eqC_mpB, ?_⟩)) ?_ (fun _ _ => trivial) ?_
      · refine st.ent (sf.ent (sk.ent (eqC_bts ?_)))
        (repeat first | exact trivial | refine ⟨rfl, ?_⟩ | refine ⟨fun _ _ => ⟨rfl, trivial⟩, ?_⟩ | refine ⟨fun _ _ => trivial, ?_⟩ | refine ⟨by omega, ?_⟩ | refine ⟨fun _ _ => eqC_winS, ?_⟩ | refine ⟨fun _ _ => eqC_winM, ?_⟩ | refine ⟨fun _ _ => eqC_winB, ?_⟩ | refine ⟨fun _ _ => eqC_selfB, ?_⟩ | refine ⟨fun _ _ => eqC_mpB, ?_⟩)
      rintro x hs ⟨rfl, rfl⟩
      (repeat first | refine And.intro (by omega) ?_ | refine And.intro (by decide) ?_ | (with_reducible refine frc_parts (by first | omega | decide) ?_) | (with_reducible refine frc_bytesL (by first | omega | decide) ?_) | refine And.intro rfl ?_)
      refine call_same (fn_hput H Ho n) [0, 1, 2, 5] rfl (by (repeat first | exact trivial | refine ⟨rfl, ?_⟩ | refine ⟨fun _ _ => ⟨rfl, trivial⟩, ?_⟩ | refine ⟨fun _ _ => trivial, ?_⟩ | refine ⟨by omega, ?_⟩ | refine ⟨fun _ _ => eqC_winS, ?_⟩ | refine ⟨fun _ _ => eqC_winM, ?_⟩ | refine ⟨fun _ _ => eqC_winB, ?_⟩ | refine ⟨fun _ _ => eqC_selfB, ?_⟩ | refine ⟨fun _ _ => eqC_mpB, ?_⟩)) ?_ (fun _ _ => trivial) ?_
      · refine st.ent (sf.ent (sk.ent (eqC_bts ?_)))
        (repeat first | exact trivial | refine ⟨rfl, ?_⟩ | refine ⟨fun _ _ => ⟨rfl, trivial⟩, ?_⟩ | refine ⟨fun _ _ => trivial, ?_⟩ | refine ⟨by omega, ?_⟩ | refine ⟨fun _ _ => eqC_winS, ?_⟩ | refine ⟨fun _ _ => eqC_winM, ?_⟩ | refine ⟨fun _ _ => eqC_winB, ?_⟩ | refine ⟨fun _ _ => eqC_selfB, ?_⟩ | refine ⟨fun _ _ => eqC_mpB, ?_⟩)
      rintro x hs ⟨hx1, hx2⟩
      have h0 := h0H
      have e1 : decide (checkM H = 0) = true := decide_eq_true h0
      by_cases h1 : n < 0
      · have hE : putE H n = 2 := by unfold putE; rw [if_neg (by omega), if_pos (.inl h1)]
        obtain ⟨rfl, rfl⟩ := hx1 (by rw [hE]; decide)
        clear hx1 hx2
        rw [hE]
        have e2 : decide (n < 0) = true := decide_eq_true h1
        (repeat first | refine And.intro (by omega) ?_ | refine And.intro (by decide) ?_ | refine And.intro rfl ?_ | refine And.intro (fun _ => ?_) (fun h => Bool.noConfusion h) | refine And.intro (fun h => Bool.noConfusion h) (fun _ => ?_) | refine And.intro (fun _ => ?_) (fun h => absurd h (by rw [e1]; decide)) | refine And.intro (fun h => absurd h (by rw [e1]; decide)) (fun _ => ?_) | refine And.intro (fun _ => ?_) (fun h => absurd h (by rw [e2]; decide)) | refine And.intro (fun h => absurd h (by rw [e2]; decide)) (fun _ => ?_))
        refine ⟨none, [], [(0, true), (2, true), (1, false), (3, false), (4, true), (5, true), (6, true), (7, true), (8, true), (9, true), (10, true), (11, true), (12, true), (13, true), (14, true), (15, true), (16, true), (17, true), (18, true)], [], by kernel_rfl, ?_⟩
        (repeat first | refine And.intro (by omega) ?_ | refine And.intro (by decide) ?_ | (with_reducible refine frc_parts (by first | omega | decide) ?_) | (with_reducible refine frc_bytesL (by first | omega | decide) ?_) | refine And.intro rfl ?_)
        refine call_same (fn_hcheck H) [0, 1, 2, 5] rfl (by (repeat first | exact trivial | refine ⟨rfl, ?_⟩ | refine ⟨fun _ _ => ⟨rfl, trivial⟩, ?_⟩ | refine ⟨fun _ _ => trivial, ?_⟩ | refine ⟨by omega, ?_⟩ | refine ⟨fun _ _ => eqC_winS, ?_⟩ | refine ⟨fun _ _ => eqC_winM, ?_⟩ | refine ⟨fun _ _ => eqC_winB, ?_⟩ | refine ⟨fun _ _ => eqC_selfB, ?_⟩ | refine ⟨fun _ _ => eqC_mpB, ?_⟩)) ?_ (fun _ _ => trivial) ?_
        · refine st.ent (sf.ent (sk.ent (eqC_bts ?_)))
          (repeat first | exact trivial | refine ⟨rfl, ?_⟩ | refine ⟨fun _ _ => ⟨rfl, trivial⟩, ?_⟩ | refine ⟨fun _ _ => trivial, ?_⟩ | refine ⟨by omega, ?_⟩ | refine ⟨fun _ _ => eqC_winS, ?_⟩ | refine ⟨fun _ _ => eqC_winM, ?_⟩ | refine ⟨fun _ _ => eqC_winB, ?_⟩ | refine ⟨fun _ _ => eqC_selfB, ?_⟩ | refine ⟨fun _ _ => eqC_mpB, ?_⟩)
        rintro x hs ⟨rfl, rfl⟩
        (repeat first | refine And.intro (by omega) ?_ | refine And.intro (by decide) ?_ | (with_reducible refine frc_parts (by first | omega | decide) ?_) | (with_reducible refine frc_bytesL (by first | omega | decide) ?_) | refine And.intro rfl ?_)
        refine call_same (fn_lcheck H) [0, 1, 2, 5] rfl (by (repeat first | exact trivial | refine ⟨rfl, ?_⟩ | refine ⟨fun _ _ => ⟨rfl, trivial⟩, ?_⟩ | refine ⟨fun _ _ => trivial, ?_⟩ | refine ⟨by omega, ?_⟩ | refine ⟨fun _ _ => eqC_winS, ?_⟩ | refine ⟨fun _ _ => eqC_winM, ?_⟩ | refine ⟨fun _ _ => eqC_winB, ?_⟩ | refine ⟨fun _ _ => eqC_selfB, ?_⟩ | refine ⟨fun _ _ => eqC_mpB, ?_⟩)) ?_ (fun _ _ => trivial) ?_
        · refine st.ent (sf.ent (sk.ent (eqC_bts ?_)))
          (repeat first | exact trivial | refine ⟨rfl, ?_⟩ | refine ⟨fun _ _ => ⟨rfl, trivial⟩, ?_⟩ | refine ⟨fun _ _ => trivial, ?_⟩ | refine ⟨by omega, ?_⟩ | refine ⟨fun _ _ => eqC_winS, ?_⟩ | refine ⟨fun _ _ => eqC_winM, ?_⟩ | refine ⟨fun _ _ => eqC_winB, ?_⟩ | refine ⟨fun _ _ => eqC_selfB, ?_⟩ | refine ⟨fun _ _ => eqC_mpB, ?_⟩)
        rintro x hs ⟨rfl, rfl⟩
        have e5 : decide (checkM H ≠ checkM H) = false := decide_eq_false (fun h => h rfl)
        have e6 : decide ((2 : Int) ≠ (2 : Int)) = false := decide_eq_false (fun h => h rfl)
        have e7 : decide ((2 : Int) ≠ (0 : Int)) = true := decide_eq_true (by omega)
        have e8 : decide ((2 : Int) = (0 : Int)) = false := decide_eq_false (by omega)
        (repeat first | refine And.intro (by omega) ?_ | refine And.intro (by decide) ?_ | refine And.intro rfl ?_ | refine And.intro (fun _ => ?_) (fun h => Bool.noConfusion h) | refine And.intro (fun h => Bool.noConfusion h) (fun _ => ?_) | refine And.intro (fun _ => ?_) (fun h => absurd h (by rw [e5]; decide)) | refine And.intro (fun h => absurd h (by rw [e5]; decide)) (fun _ => ?_) | refine And.intro (fun _ => ?_) (fun h => absurd h (by rw [e6]; decide)) | refine And.intro (fun h => absurd h (by rw [e6]; decide)) (fun _ => ?_) | refine And.intro (fun _ => ?_) (fun h => absurd h (by rw [e7]; decide)) | refine And.intro (fun h => absurd h (by rw [e7]; decide)) (fun _ => ?_) | refine And.intro (fun _ => ?_) (fun h => absurd h (by rw [e8]; decide)) | refine And.intro (fun h => absurd h (by rw [e8]; decide)) (fun _ => ?_))
        refine ⟨none, [], [(0, true), (1, true), (2, true), (3, true), (4, true), (5, true), (6, true), (7, true), (8, true), (9, true), (10, true), (11, true), (12, true), (13, true), (14, true), (15, true), (16, true), (17, true), (18, true), (19, false), (20, true), (21, true), (22, true)], [], by kernel_rfl, ?_⟩
        (repeat first | refine And.intro (by omega) ?_ | refine And.intro (by decide) ?_ | refine And.intro rfl ?_ | refine And.intro (fun _ => ?_) (fun h => Bool.noConfusion h) | refine And.intro (fun h => Bool.noConfusion h) (fun _ => ?_) | refine And.intro (fun _ => ?_) (fun h => absurd h (by rw [e5]; decide)) | refine And.intro (fun h => absurd h (by rw [e5]; decide)) (fun _ => ?_) | refine And.intro (fun _ => ?_) (fun h => absurd h (by rw [e6]; decide)) | refine And.intro (fun h => absurd h (by rw [e6]; decide)) (fun _ => ?_) | refine And.intro (fun _ => ?_) (fun h => absurd h (by rw [e7]; decide)) | refine And.intro (fun h => absurd h (by rw [e7]; decide)) (fun _ => ?_) | refine And.intro (fun _ => ?_) (fun h => absurd h (by rw [e8]; decide)) | refine And.intro (fun h => absurd h (by rw [e8]; decide)) (fun _ => ?_))
        refine ⟨k + 1, [0, 1, 2, 3, 4, 5, 6, 7, 8, 9, 10], ⟨⟨rfl, rfl, rfl⟩, ?_⟩, by omega, by dsimp only; omega⟩
        (repeat first | exact trivial | refine ⟨rfl, ?_⟩ | refine ⟨fun _ _ => ⟨rfl, trivial⟩, ?_⟩ | refine ⟨fun _ _ => trivial, ?_⟩ | refine ⟨by omega, ?_⟩ | refine ⟨fun _ _ => eqC_winS, ?_⟩ | refine ⟨fun _ _ => eqC_winM, ?_⟩ | refine ⟨fun _ _ => eqC_winB, ?_⟩ | refine ⟨fun _ _ => eqC_selfB, ?_⟩ | refine ⟨fun _ _ => eqC_mpB, ?_⟩)
        refine eqC_bts (eqC_bts (eqC_bts (eqC_bts ?_)))
        (repeat first | exact trivial | refine ⟨rfl, ?_⟩ | refine ⟨fun _ _ => ⟨rfl, trivial⟩, ?_⟩ | refine ⟨fun _ _ => trivial, ?_⟩ | refine ⟨by omega, ?_⟩ | refine ⟨fun _ _ => eqC_winS, ?_⟩ | refine ⟨fun _ _ => eqC_winM, ?_⟩ | refine ⟨fun _ _ => eqC_winB, ?_⟩ | refine ⟨fun _ _ => eqC_selfB, ?_⟩ | refine ⟨fun _ _ => eqC_mpB, ?_⟩)
        refine eqC_bts ?_
        (repeat first | exact trivial | refine ⟨rfl, ?_⟩ | refine ⟨fun _ _ => ⟨rfl, trivial⟩, ?_⟩ | refine ⟨fun _ _ => trivial, ?_⟩ | refine ⟨by omega, ?_⟩ | refine ⟨fun _ _ => eqC_winS, ?_⟩ | refine ⟨fun _ _ => eqC_winM, ?_⟩ | refine ⟨fun _ _ => eqC_winB, ?_⟩ | refine ⟨fun _ _ => eqC_selfB, ?_⟩ | refine ⟨fun _ _ => eqC_mpB, ?_⟩)
        refine ⟨fun j hj => ?_, trivial⟩
        rcases lt2' hj with rfl | rfl <;> exact ⟨rfl, trivial⟩
      have e2 : decide (n < 0) = false := decide_eq_false h1
      by_cases h2 : 1200 < n
      · have hE : putE H n = 2 := by unfold putE; rw [if_neg (by omega), if_pos (.inr h2)]
        obtain ⟨rfl, rfl⟩ := hx1 (by rw [hE]; decide)
        clear hx1 hx2
        rw [hE]
        have e3 : decide (1200 < n) = true := decide_eq_true h2
        (repeat first | refine And.intro (by omega) ?_ | refine And.intro (by decide) ?_ | refine And.intro rfl ?_ | refine And.intro (fun _ => ?_) (fun h => Bool.noConfusion h) | refine And.intro (fun h => Bool.noConfusion h) (fun _ => ?_) | refine And.intro (fun _ => ?_) (fun h => absurd h (by rw [e1]; decide)) | refine And.intro (fun h => absurd h (by rw [e1]; decide)) (fun _ => ?_) | refine And.intro (fun _ => ?_) (fun h => absurd h (by rw [e2]; decide)) | refine And.intro (fun h => absurd h (by rw [e2]; decide)) (fun _ => ?_) | refine And.intro (fun _ => ?_) (fun h => absurd h (by rw [e3]; decide)) | refine And.intro (fun h => absurd h (by rw [e3]; decide)) (fun _ => ?_))
        refine ⟨none, [], [(0, true), (2, true), (1, false), (3, false), (4, true), (5, true), (6, true), (7, true), (8, true), (9, true), (10, true), (11, true), (12, true), (13, true), (14, true), (15, true), (16, true), (17, true), (18, true)], [], by kernel_rfl, ?_⟩
        (repeat first | refine And.intro (by omega) ?_ | refine And.intro (by decide) ?_ | (with_reducible refine frc_parts (by first | omega | decide) ?_) | (with_reducible refine frc_bytesL (by first | omega | decide) ?_) | refine And.intro rfl ?_)
        refine call_same (fn_hcheck H) [0, 1, 2, 5] rfl (by (repeat first | exact trivial | refine ⟨rfl, ?_⟩ | refine ⟨fun _ _ => ⟨rfl, trivial⟩, ?_⟩ | refine ⟨fun _ _ => trivial, ?_⟩ | refine ⟨by omega, ?_⟩ | refine ⟨fun _ _ => eqC_winS, ?_⟩ | refine ⟨fun _ _ => eqC_winM, ?_⟩ | refine ⟨fun _ _ => eqC_winB, ?_⟩ | refine ⟨fun _ _ => eqC_selfB, ?_⟩ | refine ⟨fun _ _ => eqC_mpB, ?_⟩)) ?_ (fun _ _ => trivial) ?_
        · refine st.ent (sf.ent (sk.ent (eqC_bts ?_)))
          (repeat first | exact trivial | refine ⟨rfl, ?_⟩ | refine ⟨fun _ _ => ⟨rfl, trivial⟩, ?_⟩ | refine ⟨fun _ _ => trivial, ?_⟩ | refine ⟨by omega, ?_⟩ | refine ⟨fun _ _ => eqC_winS, ?_⟩ | refine ⟨fun _ _ => eqC_winM, ?_⟩ | refine ⟨fun _ _ => eqC_winB, ?_⟩ | refine ⟨fun _ _ => eqC_selfB, ?_⟩ | refine ⟨fun _ _ => eqC_mpB, ?_⟩)
        rintro x hs ⟨rfl, rfl⟩
        (repeat first | refine And.intro (by omega) ?_ | refine And.intro (by decide) ?_ | (with_reducible refine frc_parts (by first | omega | decide) ?_) | (with_reducible refine frc_bytesL (by first | omega | decide) ?_) | refine And.intro rfl ?_)
        refine call_same (fn_lcheck H) [0, 1, 2, 5] rfl (by (repeat first | exact trivial | refine ⟨rfl, ?_⟩ | refine ⟨fun _ _ => ⟨rfl, trivial⟩, ?_⟩ | refine ⟨fun _ _ => trivial, ?_⟩ | refine ⟨by omega, ?_⟩ | refine ⟨fun _ _ => eqC_winS, ?_⟩ | refine ⟨fun _ _ => eqC_winM, ?_⟩ | refine ⟨fun _ _ => eqC_winB, ?_⟩ | refine ⟨fun _ _ => eqC_selfB, ?_⟩ | refine ⟨fun _ _ => eqC_mpB, ?_⟩)) ?_ (fun _ _ => trivial) ?_
        · refine st.ent (sf.ent (sk.ent (eqC_bts ?_)))
          (repeat first | exact trivial | refine ⟨rfl, ?_⟩ | refine ⟨fun _ _ => ⟨rfl, trivial⟩, ?_⟩ | refine ⟨fun _ _ => trivial, ?_⟩ | refine ⟨by omega, ?_⟩ | refine ⟨fun _ _ => eqC_winS, ?_⟩ | refine ⟨fun _ _ => eqC_winM, ?_⟩ | refine ⟨fun _ _ => eqC_winB, ?_⟩ | refine ⟨fun _ _ => eqC_selfB, ?_⟩ | refine ⟨fun _ _ => eqC_mpB, ?_⟩)
        rintro x hs ⟨rfl, rfl⟩
        have e5 : decide (checkM H ≠ checkM H) = false := decide_eq_false (fun h => h rfl)
        have e6 : decide ((2 : Int) ≠ (2 : Int)) = false := decide_eq_false (fun h => h rfl)
        have e7 : decide ((2 : Int) ≠ (0 : Int)) = true := decide_eq_true (by omega)
        have e8 : decide ((2 : Int) = (0 : Int)) = false := decide_eq_false (by omega)
        (repeat first | refine And.intro (by omega) ?_ | refine And.intro (by decide) ?_ | refine And.intro rfl ?_ | refine And.intro (fun _ => ?_) (fun h => Bool.noConfusion h) | refine And.intro (fun h => Bool.noConfusion h) (fun _ => ?_) | refine And.intro (fun _ => ?_) (fun h => absurd h (by rw [e5]; decide)) | refine And.intro (fun h => absurd h (by rw [e5]; decide)) (fun _ => ?_) | refine And.intro (fun _ => ?_) (fun h => absurd h (by rw [e6]; decide)) | refine And.intro (fun h => absurd h (by rw [e6]; decide)) (fun _ => ?_) | refine And.intro (fun _ => ?_) (fun h => absurd h (by rw [e7]; decide)) | refine And.intro (fun h => absurd h (by rw [e7]; decide)) (fun _ => ?_) | refine And.intro (fun _ => ?_) (fun h => absurd h (by rw [e8]; decide)) | refine And.intro (fun h => absurd h (by rw [e8]; decide)) (fun _ => ?_))
        refine ⟨none, [], [(0, true), (1, true), (2, true), (3, true), (4, true), (5, true), (6, true), (7, true), (8, true), (9, true), (10, true), (11, true), (12, true), (13, true), (14, true), (15, true), (16, true), (17, true), (18, true), (19, false), (20, true), (21, true), (22, true)], [], by kernel_rfl, ?_⟩
        (repeat first | refine And.intro (by omega) ?_ | refine And.intro (by decide) ?_ | refine And.intro rfl ?_ | refine And.intro (fun _ => ?_) (fun h => Bool.noConfusion h) | refine And.intro (fun h => Bool.noConfusion h) (fun _ => ?_) | refine And.intro (fun _ => ?_) (fun h => absurd h (by rw [e5]; decide)) | refine And.intro (fun h => absurd h (by rw [e5]; decide)) (fun _ => ?_) | refine And.intro (fun _ => ?_) (fun h => absurd h (by rw [e6]; decide)) | refine And.intro (fun h => absurd h (by rw [e6]; decide)) (fun _ => ?_) | refine And.intro (fun _ => ?_) (fun h => absurd h (by rw [e7]; decide)) | refine And.intro (fun h => absurd h (by rw [e7]; decide)) (fun _ => ?_) | refine And.intro (fun _ => ?_) (fun h => absurd h (by rw [e8]; decide)) | refine And.intro (fun h => absurd h (by rw [e8]; decide)) (fun _ => ?_))
        refine ⟨k + 1, [0, 1, 2, 3, 4, 5, 6, 7, 8, 9, 10], ⟨⟨rfl, rfl, rfl⟩, ?_⟩, by omega, by dsimp only; omega⟩
        (repeat first | exact trivial | refine ⟨rfl, ?_⟩ | refine ⟨fun _ _ => ⟨rfl, trivial⟩, ?_⟩ | refine ⟨fun _ _ => trivial, ?_⟩ | refine ⟨by omega, ?_⟩ | refine ⟨fun _ _ => eqC_winS, ?_⟩ | refine ⟨fun _ _ => eqC_winM, ?_⟩ | refine ⟨fun _ _ => eqC_winB, ?_⟩ | refine ⟨fun _ _ => eqC_selfB, ?_⟩ | refine ⟨fun _ _ => eqC_mpB, ?_⟩)
        refine eqC_bts (eqC_bts (eqC_bts (eqC_bts ?_)))
        (repeat first | exact trivial | refine ⟨rfl, ?_⟩ | refine ⟨fun _ _ => ⟨rfl, trivial⟩, ?_⟩ | refine ⟨fun _ _ => trivial, ?_⟩ | refine ⟨by omega, ?_⟩ | refine ⟨fun _ _ => eqC_winS, ?_⟩ | refine ⟨fun _ _ => eqC_winM, ?_⟩ | refine ⟨fun _ _ => eqC_winB, ?_⟩ | refine ⟨fun _ _ => eqC_selfB, ?_⟩ | refine ⟨fun _ _ => eqC_mpB, ?_⟩)
        refine eqC_bts ?_
        (repeat first | exact trivial | refine ⟨rfl, ?_⟩ | refine ⟨fun _ _ => ⟨rfl, trivial⟩, ?_⟩ | refine ⟨fun _ _ => trivial, ?_⟩ | refine ⟨by omega, ?_⟩ | refine ⟨fun _ _ => eqC_winS, ?_⟩ | refine ⟨fun _ _ => eqC_winM, ?_⟩ | refine ⟨fun _ _ => eqC_winB, ?_⟩ | refine ⟨fun _ _ => eqC_selfB, ?_⟩ | refine ⟨fun _ _ => eqC_mpB, ?_⟩)
        refine ⟨fun j hj => ?_, trivial⟩
        rcases lt2' hj with rfl | rfl <;> exact ⟨rfl, trivial⟩
      have e3 : decide (1200 < n) = false := decide_eq_false h2
      have hE : putE H n = 0 := by unfold putE; rw [if_neg (by omega), if_neg (by omega)]
      obtain ⟨c, hc, rfl, rfl⟩ := hx2 hE
      clear hx1 hx2
      (repeat first | refine And.intro (by omega) ?_ | refine And.intro (by decide) ?_ | refine And.intro rfl ?_ | refine And.intro (fun _ => ?_) (fun h => Bool.noConfusion h) | refine And.intro (fun h => Bool.noConfusion h) (fun _ => ?_) | refine And.intro (fun _ => ?_) (fun h => absurd h (by rw [e1]; decide)) | refine And.intro (fun h => absurd h (by rw [e1]; decide)) (fun _ => ?_) | refine And.intro (fun _ => ?_) (fun h => absurd h (by rw [e2]; decide)) | refine And.intro (fun h => absurd h (by rw [e2]; decide)) (fun _ => ?_) | refine And.intro (fun _ => ?_) (fun h => absurd h (by rw [e3]; decide)) | refine And.intro (fun h => absurd h (by rw [e3]; decide)) (fun _ => ?_))
      refine ⟨none, [], [(0, true), (2, true), (1, false), (3, false), (4, true), (5, true), (6, true), (7, true), (8, true), (9, true), (10, true), (11, true), (12, true), (13, true), (14, true), (15, true), (16, true), (17, true), (18, true)], [], by kernel_rfl, ?_⟩
      (repeat first | refine And.intro (by omega) ?_ | refine And.intro (by decide) ?_ | (with_reducible refine frc_parts (by first | omega | decide) ?_) | (with_reducible refine frc_bytesL (by first | omega | decide) ?_) | refine And.intro rfl ?_)
      refine call_same (fn_hcheck H) [0, 1, 2, 5] rfl (by (repeat first | exact trivial | refine ⟨rfl, ?_⟩ | refine ⟨fun _ _ => ⟨rfl, trivial⟩, ?_⟩ | refine ⟨fun _ _ => trivial, ?_⟩ | refine ⟨by omega, ?_⟩ | refine ⟨fun _ _ => eqC_winS, ?_⟩ | refine ⟨fun _ _ => eqC_winM, ?_⟩ | refine ⟨fun _ _ => eqC_winB, ?_⟩ | refine ⟨fun _ _ => eqC_selfB, ?_⟩ | refine ⟨fun _ _ => eqC_mpB, ?_⟩)) ?_ (fun _ _ => trivial) ?_
      · refine st.ent (sf.ent (sk.ent (eqC_bts ?_)))
        (repeat first | exact trivial | refine ⟨rfl, ?_⟩ | refine ⟨fun _ _ => ⟨rfl, trivial⟩, ?_⟩ | refine ⟨fun _ _ => trivial, ?_⟩ | refine ⟨by omega, ?_⟩ | refine ⟨fun _ _ => eqC_winS, ?_⟩ | refine ⟨fun _ _ => eqC_winM, ?_⟩ | refine ⟨fun _ _ => eqC_winB, ?_⟩ | refine ⟨fun _ _ => eqC_selfB, ?_⟩ | refine ⟨fun _ _ => eqC_mpB, ?_⟩)
      rintro x hs ⟨rfl, rfl⟩
      (repeat first | refine And.intro (by omega) ?_ | refine And.intro (by decide) ?_ | (with_reducible refine frc_parts (by first | omega | decide) ?_) | (with_reducible refine frc_bytesL (by first | omega | decide) ?_) | refine And.intro rfl ?_)
      refine call_same (fn_lcheck H) [0, 1, 2, 5] rfl (by (repeat first | exact trivial | refine ⟨rfl, ?_⟩ | refine ⟨fun _ _ => ⟨rfl, trivial⟩, ?_⟩ | refine ⟨fun _ _ => trivial, ?_⟩ | refine ⟨by omega, ?_⟩ | refine ⟨fun _ _ => eqC_winS, ?_⟩ | refine ⟨fun _ _ => eqC_winM, ?_⟩ | refine ⟨fun _ _ => eqC_winB, ?_⟩ | refine ⟨fun _ _ => eqC_selfB, ?_⟩ | refine ⟨fun _ _ => eqC_mpB, ?_⟩)) ?_ (fun _ _ => trivial) ?_
      · refine st.ent (sf.ent (sk.ent (eqC_bts ?_)))
        (repeat first | exact trivial | refine ⟨rfl, ?_⟩ | refine ⟨fun _ _ => ⟨rfl, trivial⟩, ?_⟩ | refine ⟨fun _ _ => trivial, ?_⟩ | refine ⟨by omega, ?_⟩ | refine ⟨fun _ _ => eqC_winS, ?_⟩ | refine ⟨fun _ _ => eqC_winM, ?_⟩ | refine ⟨fun _ _ => eqC_winB, ?_⟩ | refine ⟨fun _ _ => eqC_selfB, ?_⟩ | refine ⟨fun _ _ => eqC_mpB, ?_⟩)
      rintro x hs ⟨rfl, rfl⟩
      have e5 : decide (checkM H ≠ checkM H) = false := decide_eq_false (fun h => h rfl)
      have e6 : decide ((0 : Int) ≠ checkM H) = false := decide_eq_false (by omega)
      (repeat first | refine And.intro (by omega) ?_ | refine And.intro (by decide) ?_ | refine And.intro rfl ?_ | refine And.intro (fun _ => ?_) (fun h => Bool.noConfusion h) | refine And.intro (fun h => Bool.noConfusion h) (fun _ => ?_) | refine And.intro (fun _ => ?_) (fun h => absurd h (by rw [e5]; decide)) | refine And.intro (fun h => absurd h (by rw [e5]; decide)) (fun _ => ?_) | refine And.intro (fun _ => ?_) (fun h => absurd h (by rw [e6]; decide)) | refine And.intro (fun h => absurd h (by rw [e6]; decide)) (fun _ => ?_))
      refine ⟨none, [], [(0, true), (1, true), (2, true), (3, true), (4, true), (5, true), (6, true), (7, true), (8, true), (9, true), (10, true), (11, true), (12, true), (13, true), (14, true), (15, true), (16, true), (17, true), (18, true), (19, false), (20, true), (21, true), (22, true)], [], by kernel_rfl, ?_⟩
      (repeat first | refine And.intro (by omega) ?_ | refine And.intro (by decide) ?_ | refine And.intro rfl ?_ | refine And.intro (fun _ => ?_) (fun h => Bool.noConfusion h) | refine And.intro (fun h => Bool.noConfusion h) (fun _ => ?_) | refine And.intro (fun _ => ?_) (fun h => absurd h (by rw [e5]; decide)) | refine And.intro (fun h => absurd h (by rw [e5]; decide)) (fun _ => ?_) | refine And.intro (fun _ => ?_) (fun h => absurd h (by rw [e6]; decide)) | refine And.intro (fun h => absurd h (by rw [e6]; decide)) (fun _ => ?_))
      refine ⟨by show 0 + (putH H n.toNat).length ≤ c; rw [Nat.zero_add]; exact hc, U8 (putH H n.toNat), str_of rfl (fun q hq => mp_row q hq), ?_⟩
      (repeat first | refine And.intro (by omega) ?_ | refine And.intro (by decide) ?_ | refine And.intro rfl ?_ | refine And.intro (fun _ => ?_) (fun h => Bool.noConfusion h) | refine And.intro (fun h => Bool.noConfusion h) (fun _ => ?_) | refine And.intro (fun _ => ?_) (fun h => absurd h (by rw [e5]; decide)) | refine And.intro (fun h => absurd h (by rw [e5]; decide)) (fun _ => ?_) | refine And.intro (fun _ => ?_) (fun h => absurd h (by rw [e6]; decide)) | refine And.intro (fun h => absurd h (by rw [e6]; decide)) (fun _ => ?_))
      refine call_same (fn_qheader H Ho h0 n.toNat (by omega)) [0, 1, 2, 5] rfl ?_ ?_ (fun _ _ => trivial) ?_
      · (repeat first | exact trivial | refine ⟨rfl, ?_⟩ | refine ⟨fun _ _ => ⟨rfl, trivial⟩, ?_⟩ | refine ⟨fun _ _ => trivial, ?_⟩ | refine ⟨by omega, ?_⟩ | refine ⟨fun _ _ => eqC_winS, ?_⟩ | refine ⟨fun _ _ => eqC_winM, ?_⟩ | refine ⟨fun _ _ => eqC_winB, ?_⟩ | refine ⟨fun _ _ => eqC_selfB, ?_⟩ | refine ⟨fun _ _ => eqC_mpB, ?_⟩)
      · refine st.ent (sf.ent (sk.ent (eqC_bts ?_)))
        (repeat first | exact trivial | refine ⟨rfl, ?_⟩ | refine ⟨fun _ _ => ⟨rfl, trivial⟩, ?_⟩ | refine ⟨fun _ _ => trivial, ?_⟩ | refine ⟨by omega, ?_⟩ | refine ⟨fun _ _ => eqC_winS, ?_⟩ | refine ⟨fun _ _ => eqC_winM, ?_⟩ | refine ⟨fun _ _ => eqC_winB, ?_⟩ | refine ⟨fun _ _ => eqC_selfB, ?_⟩ | refine ⟨fun _ _ => eqC_mpB, ?_⟩)
      rintro x hs ⟨c2, hc2, rfl, rfl⟩
      (repeat first | refine And.intro (by omega) ?_ | refine And.intro (by decide) ?_ | refine And.intro rfl ?_ | refine And.intro (fun _ => ?_) (fun h => Bool.noConfusion h) | refine And.intro (fun h => Bool.noConfusion h) (fun _ => ?_))
      refine ⟨by show 0 + (putH H n.toNat).length ≤ c2; rw [Nat.zero_add]; exact hc2, U8 (putH H n.toNat), str_of rfl (fun q hq => mp_row q hq), ?_⟩
      have e9 : decide (U8 (putH H n.toNat) = U8 (putH H n.toNat)) = true := decide_eq_true rfl
      have e10 : (!decide (U8 (putH H n.toNat) = U8 (putH H n.toNat))) = false := by rw [e9]; rfl
      (repeat first | refine And.intro (by omega) ?_ | refine And.intro (by decide) ?_ | refine And.intro rfl ?_ | refine And.intro (fun _ => ?_) (fun h => Bool.noConfusion h) | refine And.intro (fun h => Bool.noConfusion h) (fun _ => ?_) | refine And.intro (fun _ => ?_) (fun h => absurd h (by rw [e10]; decide)) | refine And.intro (fun h => absurd h (by rw [e10]; decide)) (fun _ => ?_))
      refine ⟨k + 1, [0, 1, 2, 3, 4, 5, 6, 7, 8, 9, 10], ⟨⟨rfl, rfl, rfl⟩, ?_⟩, by omega, by dsimp only; omega⟩
      (repeat first | exact trivial | refine ⟨rfl, ?_⟩ | refine ⟨fun _ _ => ⟨rfl, trivial⟩, ?_⟩ | refine ⟨fun _ _ => trivial, ?_⟩ | refine ⟨by omega, ?_⟩ | refine ⟨fun _ _ => eqC_winS, ?_⟩ | refine ⟨fun _ _ => eqC_winM, ?_⟩ | refine ⟨fun _ _ => eqC_winB, ?_⟩ | refine ⟨fun _ _ => eqC_selfB, ?_⟩ | refine ⟨fun _ _ => eqC_mpB, ?_⟩)
      refine eqC_bts (eqC_bts (eqC_bts (eqC_bts ?_)))
      (repeat first | exact trivial | refine ⟨rfl, ?_⟩ | refine ⟨fun _ _ => ⟨rfl, trivial⟩, ?_⟩ | refine ⟨fun _ _ => trivial, ?_⟩ | refine ⟨by omega, ?_⟩ | refine ⟨fun _ _ => eqC_winS, ?_⟩ | refine ⟨fun _ _ => eqC_winM, ?_⟩ | refine ⟨fun _ _ => eqC_winB, ?_⟩ | refine ⟨fun _ _ => eqC_selfB, ?_⟩ | refine ⟨fun _ _ => eqC_mpB, ?_⟩)
      refine eqC_bts ?_
      (repeat first | exact trivial | refine ⟨rfl, ?_⟩ | refine ⟨fun _ _ => ⟨rfl, trivial⟩, ?_⟩ | refine ⟨fun _ _ => trivial, ?_⟩ | refine ⟨by omega, ?_⟩ | refine ⟨fun _ _ => eqC_winS, ?_⟩ | refine ⟨fun _ _ => eqC_winM, ?_⟩ | refine ⟨fun _ _ => eqC_winB, ?_⟩ | refine ⟨fun _ _ => eqC_selfB, ?_⟩ | refine ⟨fun _ _ => eqC_mpB, ?_⟩)
      refine ⟨fun j hj => ?_, trivial⟩
      rcases lt2' hj with rfl | rfl <;> exact ⟨rfl, trivial⟩
    · obtain rfl : k = 2 := by have : ¬ (k : Int) < 2 := of_decide_eq_false hlt; have hk : k ≤ 2 := hk; omega
      (repeat first | refine And.intro (by omega) ?_ | refine And.intro (by decide) ?_ | (with_reducible refine frc_parts (by first | omega | decide) ?_) | (with_reducible refine frc_bytesL (by first | omega | decide) ?_) | refine And.intro rfl ?_)
      refine ⟨fun hh => Bool.noConfusion hh, fun _ => ?_⟩
      (repeat first | refine And.intro (by omega) ?_ | refine And.intro (by decide) ?_ | (with_reducible refine frc_parts (by first | omega | decide) ?_) | (with_reducible refine frc_bytesL (by first | omega | decide) ?_) | refine And.intro rfl ?_)
      refine call_same (fn_hlong 0#8) [] rfl (by (repeat first | exact trivial | refine ⟨rfl, ?_⟩ | refine ⟨fun _ _ => ⟨rfl, trivial⟩, ?_⟩ | refine ⟨fun _ _ => trivial, ?_⟩ | refine ⟨by omega, ?_⟩ | refine ⟨fun _ _ => eqC_winS, ?_⟩ | refine ⟨fun _ _ => eqC_winM, ?_⟩ | refine ⟨fun _ _ => eqC_winB, ?_⟩ | refine ⟨fun _ _ => eqC_selfB, ?_⟩ | refine ⟨fun _ _ => eqC_mpB, ?_⟩)) trivial (fun _ _ => trivial) ?_
      rintro x hs ⟨rfl, rfl⟩
      (repeat first | refine And.intro (by omega) ?_ | refine And.intro (by decide) ?_ | refine And.intro rfl ?_ | refine And.intro (fun _ => ?_) (fun h => Bool.noConfusion h) | refine And.intro (fun h => Bool.noConfusion h) (fun _ => ?_))
      refine call_same (fn_hlong 1#8) [] rfl (by (repeat first | exact trivial | refine ⟨rfl, ?_⟩ | refine ⟨fun _ _ => ⟨rfl, trivial⟩, ?_⟩ | refine ⟨fun _ _ => trivial, ?_⟩ | refine ⟨by omega, ?_⟩ | refine ⟨fun _ _ => eqC_winS, ?_⟩ | refine ⟨fun _ _ => eqC_winM, ?_⟩ | refine ⟨fun _ _ => eqC_winB, ?_⟩ | refine ⟨fun _ _ => eqC_selfB, ?_⟩ | refine ⟨fun _ _ => eqC_mpB, ?_⟩)) trivial (fun _ _ => trivial) ?_
      rintro x hs ⟨rfl, rfl⟩
      (repeat first | refine And.intro (by omega) ?_ | refine And.intro (by decide) ?_ | refine And.intro rfl ?_ | refine And.intro (fun _ => ?_) (fun h => Bool.noConfusion h) | refine And.intro (fun h => Bool.noConfusion h) (fun _ => ?_))
      refine call_same (fn_hlong 2#8) [] rfl (by (repeat first | exact trivial | refine ⟨rfl, ?_⟩ | refine ⟨fun _ _ => ⟨rfl, trivial⟩, ?_⟩ | refine ⟨fun _ _ => trivial, ?_⟩ | refine ⟨by omega, ?_⟩ | refine ⟨fun _ _ => eqC_winS, ?_⟩ | refine ⟨fun _ _ => eqC_winM, ?_⟩ | refine ⟨fun _ _ => eqC_winB, ?_⟩ | refine ⟨fun _ _ => eqC_selfB, ?_⟩ | refine ⟨fun _ _ => eqC_mpB, ?_⟩)) trivial (fun _ _ => trivial) ?_
      rintro x hs ⟨rfl, rfl⟩
      (repeat first | refine And.intro (by omega) ?_ | refine And.intro (by decide) ?_ | refine And.intro rfl ?_ | refine And.intro (fun _ => ?_) (fun h => Bool.noConfusion h) | refine And.intro (fun h => Bool.noConfusion h) (fun _ => ?_))
      refine ⟨.a (.c (.bool true)), [[], [], [], []], ⟨[0, 1, 2, 3], ⟨rfl, rfl, rfl⟩, ?_⟩, rfl⟩
      (repeat first | exact trivial | refine ⟨rfl, ?_⟩ | refine ⟨fun _ _ => ⟨rfl, trivial⟩, ?_⟩ | refine ⟨fun _ _ => trivial, ?_⟩ | refine ⟨by omega, ?_⟩ | refine ⟨fun _ _ => eqC_winS, ?_⟩ | refine ⟨fun _ _ => eqC_winM, ?_⟩ | refine ⟨fun _ _ => eqC_winB, ?_⟩ | refine ⟨fun _ _ => eqC_selfB, ?_⟩ | refine ⟨fun _ _ => eqC_mpB, ?_⟩)
      exact eqSegs_nil (eqSegs_nil (eqSegs_nil (eqSegs_nil trivial)))
end Sx
end Go.Proofs.Ytkjdkeolkigibaa
end

section
/-
  The law of what stands ahead of any bytes. No condition.
-/
namespace Go.Proofs.Ytkjdkeolkigibaa
set_option linter.unusedVariables false
namespace Sx
open Sha Vi
set_option linter.unusedSimpArgs false

theorem sn_sub {h : List (List Seg)} {z : Bool} {j N oo m : Nat} {f : Nat → SC} {l : Bs} {k : (Nat → SC) → Prop} (hj : getH h j = [.row N f]) (hN : oo + m ≤ N) (hf : ∀ i, i < m → f (oo + i) = .w8 (L l i)) (hz : z = true → m = 0)
    (hk : ∀ g : Nat → SC, (∀ i, i < m → g i = .w8 (L l i)) → k g) : ∃ f' : Nat → SC, ((z = true → m = 0) ∧ (z = false → SnAt h j 0 oo m 1 f')) ∧ k f' := by
  refine ⟨fun i => .w8 (L l i), ⟨hz, ?_⟩, hk _ fun _ _ => rfl⟩
  rintro rfl
  exact ⟨N, f, [], by rw [hj]; rfl, hN, fun q hq => by rw [Nat.add_comm]; exact (hf q hq).symm⟩
theorem s2_at {a b : SC} {k : Nat} (hk : k < 2) : nthC [a, b] (((k : Nat) : Int).toNat + 0) = if k = 0 then a else b := by
  have : k = 0 ∨ k = 1 := by omega
  rcases this with rfl | rfl <;> rfl
set_option maxRecDepth 20000 in
set_option maxHeartbeats 32000000 in
theorem fn_headerAny (s0 : Sl) (hfit : s0.Fit) (id : Int) (first : BitVec 8) : FnR Try.prog tds 8 1 [svB s0] [.c (svC 0 s0), .c (.int .i64 id), .c (.w8 first)] (fun _ => True) (fun x _ => x = .a (.c (.bool true))) := by
  refine fn_of_body tds_ok follows_ Try.func8 rfl (t := .a (.c (svC 0 s0)) :: .a (.c (.int .i64 id)) :: .a (.c (.w8 first)) :: anys (Try.f8.ntmps - 3)) rfl (fun w r0 hr _ => ?_)
  obtain ⟨x0, rfl⟩ := List.length_eq_one_iff.1 hr
  (repeat first | refine And.intro (by omega) ?_ | refine And.intro (by decide) ?_ | (with_reducible refine frc_parts (by first | omega | decide) ?_) | (with_reducible refine frc_bytesL (by first | omega | decide) ?_) | refine And.intro rfl ?_)
  refine call_same fn_awake9 [] rfl trivial trivial (fun _ _ => trivial) ?_
  rintro x hs ⟨rfl, rfl⟩
  by_cases lb : 200 < s0.l.length
  · have e1 : decide ((200 : Int) < (s0.l.length : Int)) = true := decide_eq_true (by omega)
    (repeat first | refine And.intro (by omega) ?_ | refine And.intro (by decide) ?_ | refine And.intro rfl ?_ | refine And.intro (fun _ => ?_) (fun h => Bool.noConfusion h) | refine And.intro (fun h => Bool.noConfusion h) (fun _ => ?_) | refine And.intro (fun _ => ?_) (fun h => absurd h (by rw [e1]; decide)) | refine And.intro (fun h => absurd h (by rw [e1]; decide)) (fun _ => ?_))
    refine ⟨.a (.c (.bool true)), [[]], ⟨[0], ⟨rfl, rfl, rfl⟩, ?_⟩, rfl⟩
    (repeat first | exact trivial | refine ⟨rfl, ?_⟩ | refine ⟨fun _ _ => ⟨rfl, trivial⟩, ?_⟩ | refine ⟨fun _ _ => trivial, ?_⟩ | refine ⟨by omega, ?_⟩ | refine ⟨fun _ _ => eqC_winS, ?_⟩ | refine ⟨fun _ _ => eqC_winM, ?_⟩ | refine ⟨fun _ _ => eqC_winB, ?_⟩ | refine ⟨fun _ _ => eqC_selfB, ?_⟩ | refine ⟨fun _ _ => eqC_mpB, ?_⟩)
    exact eqSegs_nil trivial
  have e1 : decide ((200 : Int) < (s0.l.length : Int)) = false := decide_eq_false (by omega)
  have o0 := hfit.ok (by omega)
  have l0 : s0.l.length ≤ 205 := by omega
  (repeat first | refine And.intro (by omega) ?_ | refine And.intro (by decide) ?_ | refine And.intro rfl ?_ | refine And.intro (fun _ => ?_) (fun h => Bool.noConfusion h) | refine And.intro (fun h => Bool.noConfusion h) (fun _ => ?_) | refine And.intro (fun _ => ?_) (fun h => absurd h (by rw [e1]; decide)) | refine And.intro (fun h => absurd h (by rw [e1]; decide)) (fun _ => ?_))
  refine sn_bts rfl o0.fit (fun h => by rw [o0.nil h]; rfl) (fun g0 hg0 => ?_)
  refine ⟨⟨by first | omega | (simp only [scale]; omega), by first | omega | (simp only [scale]; omega), by show (5 + s0.l.length) * 1 ≤ 140737488355328; omega⟩, fun c1 hc1 => ?_⟩
  (repeat first | refine And.intro (by omega) ?_ | refine And.intro (by decide) ?_ | refine And.intro rfl ?_ | refine And.intro (fun _ => ?_) (fun h => Bool.noConfusion h) | refine And.intro (fun h => Bool.noConfusion h) (fun _ => ?_))
  obtain ⟨s1, hs1⟩ : ∃ x : Sl, x = ⟨false, c1, 0, c1, [192#8 ||| (first &&& 47#8), 0#8, 0#8, 0#8, 1#8] ++ s0.l⟩ := ⟨_, rfl⟩
  have ll : ([192#8 ||| (first &&& 47#8), 0#8, 0#8, 0#8, 1#8] ++ s0.l).length = 5 + s0.l.length := by simp; omega
  have o1 : s1.Ok := by rw [hs1]; exact own_ok (by omega) (by omega)
  have l1 : s1.l.length ≤ 205 := by rw [hs1]; show ([192#8 ||| (first &&& 47#8), 0#8, 0#8, 0#8, 1#8] ++ s0.l).length ≤ 205; omega
  refine .inl ⟨Nat, fun k => ⟨[.any, .a (.c (.int .i64 (id))), .any, .any, .any, .any, .any, .any, .any, .any, .any, .any, .any, .any, .any, .any, .any, .any, .any, .any, .any, .any, .any, .any, .any, .any, .any, .any, .any, .a (.c (.sl 2 0 0 2 2)), .a (.c (.int .i64 (2))), .a (.c (.int .i64 (↑k))), .any, .any, .any, .any, .any, .any, .any, .any, .any, .any, .any, .any, .any, .any, .any, .any, .any, .any, .any, .any, .any, .any, .any, .any, .any, .any, .any, .any, .any, .any, .any, .any, .any, .any, .any, .any, .any, .any, .any, .any, .any, .any, .any, .any, .any, .any, .any, .any, .any, .any, .any, .any, .any, .any, .any, .any, .any, .any, .any, .any, .any, .any, .any, .any, .any, .any, .any, .any, .any, .any, .any, .any, .any, .any, .any, .any, .any, .any, .any, .any, .any, .any, .any, .any, .any, .any, .any, .any, .any, .any, .any, .any, .any, .any, .any, .any, .any, .any, .any, .any, .any, .any, .any, .any, .any, .any, .any, .any, .any, .any, .any, .any, .any, .any, .any, .any, .any, .any, .any, .any, .any, .any, .any, .any, .any, .any, .any, .any, .any, .any, .any, .any, .any, .any, .any, .any, .any, .any, .any, .any, .any, .any, .any, .any, .any, .any, .any, .any, .any, .any, .any, .any, .any, .any, .any, .any, .any, .any, .any, .any, .any, .any, .any, .any, .any, .any, .any], [svB s0, svB s1, [.row 2 (nthC [svC 0 s0, svC 1 s1])], [], [], [], [], []]⟩, fun k => k ≤ 2, fun k => 2 - k, ⟨0, [0, 2, 3, 1, 1, 1, 1, 1], ⟨⟨rfl, rfl, rfl⟩, ?_⟩, by omega⟩, fun k hk => ⟨fun hlt => ?_, fun hlt => ?_⟩⟩
  · subst hs1
    (repeat first | exact trivial | refine ⟨rfl, ?_⟩ | refine ⟨fun _ _ => ⟨rfl, trivial⟩, ?_⟩ | refine ⟨fun _ _ => trivial, ?_⟩ | refine ⟨by omega, ?_⟩ | refine ⟨fun _ _ => eqC_winS, ?_⟩ | refine ⟨fun _ _ => eqC_winM, ?_⟩ | refine ⟨fun _ _ => eqC_winB, ?_⟩ | refine ⟨fun _ _ => eqC_selfB, ?_⟩ | refine ⟨fun _ _ => eqC_mpB, ?_⟩)
    refine eqC_bts ?_
    refine ⟨rfl, fun j hj => eqC_win0 (fun i hi => ?_) j, ?_⟩
    · have hi : i < 5 + s0.l.length := by rw [← ll]; exact hi
      exact app_row (l := [192#8 ||| (first &&& 47#8), 0#8, 0#8, 0#8, 1#8]) (m := s0.l) rfl rfl (fun i hi => nthC_w8 [_, 0#8, 0#8, 0#8, 1#8] i hi) hg0 i hi
    refine ⟨rfl, fun j hj => ?_, ?_⟩
    · rcases lt2' hj with rfl | rfl
      · (repeat first | exact trivial | refine ⟨rfl, ?_⟩ | refine ⟨fun _ _ => ⟨rfl, trivial⟩, ?_⟩ | refine ⟨fun _ _ => trivial, ?_⟩ | refine ⟨by omega, ?_⟩ | refine ⟨fun _ _ => eqC_winS, ?_⟩ | refine ⟨fun _ _ => eqC_winM, ?_⟩ | refine ⟨fun _ _ => eqC_winB, ?_⟩ | refine ⟨fun _ _ => eqC_selfB, ?_⟩ | refine ⟨fun _ _ => eqC_mpB, ?_⟩)
      · exact ⟨rfl, rfl, ll.symm, rfl, trivial⟩
    exact eqSegs_nil (eqSegs_nil (eqSegs_nil (eqSegs_nil (eqSegs_nil trivial))))
  · have hk2 : k < 2 := by have : (k : Int) < 2 := of_decide_eq_true hlt; omega
    (repeat first | refine And.intro (by omega) ?_ | refine And.intro (by decide) ?_ | (with_reducible refine frc_parts (by first | omega | decide) ?_) | (with_reducible refine frc_bytesL (by first | omega | decide) ?_) | refine And.intro rfl ?_)
    rcases lt2' hk2 with rfl | rfl
    · refine frc_eq (y := svC 0 s0) rfl ?_
      (repeat first | refine And.intro (by omega) ?_ | refine And.intro (by decide) ?_ | (with_reducible refine frc_parts (by first | omega | decide) ?_) | (with_reducible refine frc_bytesL (by first | omega | decide) ?_) | refine And.intro rfl ?_)
      refine call_same (fn_parse s0 o0 id) [0] rfl (by (repeat first | exact trivial | refine ⟨rfl, ?_⟩ | refine ⟨fun _ _ => ⟨rfl, trivial⟩, ?_⟩ | refine ⟨fun _ _ => trivial, ?_⟩ | refine ⟨by omega, ?_⟩ | refine ⟨fun _ _ => eqC_winS, ?_⟩ | refine ⟨fun _ _ => eqC_winM, ?_⟩ | refine ⟨fun _ _ => eqC_winB, ?_⟩ | refine ⟨fun _ _ => eqC_selfB, ?_⟩ | refine ⟨fun _ _ => eqC_mpB, ?_⟩)) (eqC_bts trivial) (fun _ _ => trivial) ?_
      have hany := parseP_any s0.l id
      rintro x hs hres
      cases hm : parseP s0.l id with
      | no e =>
        rw [hm] at hany hres
        have hany : e ≠ 0 := hany
        obtain ⟨rfl, rfl⟩ := hres
        have e2 : decide (e ≠ 0) = true := decide_eq_true hany
        (repeat first | refine And.intro (by omega) ?_ | refine And.intro (by decide) ?_ | refine And.intro rfl ?_ | refine And.intro (fun _ => ?_) (fun h => Bool.noConfusion h) | refine And.intro (fun h => Bool.noConfusion h) (fun _ => ?_) | refine And.intro (fun _ => ?_) (fun h => absurd h (by rw [e2]; decide)) | refine And.intro (fun h => absurd h (by rw [e2]; decide)) (fun _ => ?_))
        refine call_same (fn_hsame ⟨0#8, nilS, nilS, nilS, false, nilS⟩ ⟨0#8, nilS, nilS, nilS, false, nilS⟩ ⟨nil_ok, nil_ok, nil_ok, nil_ok⟩ ⟨nil_ok, nil_ok, nil_ok, nil_ok⟩) [0, 1, 2, 3, 4, 5, 6, 7] rfl (by (repeat first | exact trivial | refine ⟨rfl, ?_⟩ | refine ⟨fun _ _ => ⟨rfl, trivial⟩, ?_⟩ | refine ⟨fun _ _ => trivial, ?_⟩ | refine ⟨by omega, ?_⟩ | refine ⟨fun _ _ => eqC_winS, ?_⟩ | refine ⟨fun _ _ => eqC_winM, ?_⟩ | refine ⟨fun _ _ => eqC_winB, ?_⟩ | refine ⟨fun _ _ => eqC_selfB, ?_⟩ | refine ⟨fun _ _ => eqC_mpB, ?_⟩)) (eqSegs_nil (eqSegs_nil (eqSegs_nil (eqSegs_nil (eqSegs_nil (eqSegs_nil (eqSegs_nil (eqSegs_nil trivial)))))))) (fun _ _ => trivial) ?_
        rintro x hs ⟨rfl, rfl⟩
        rw [show sameM ⟨0#8, nilS, nilS, nilS, false, nilS⟩ ⟨0#8, nilS, nilS, nilS, false, nilS⟩ = true from rfl]
        (repeat first | refine And.intro (by omega) ?_ | refine And.intro (by decide) ?_ | refine And.intro rfl ?_ | refine And.intro (fun _ => ?_) (fun h => Bool.noConfusion h) | refine And.intro (fun h => Bool.noConfusion h) (fun _ => ?_) | refine And.intro (fun _ => ?_) (fun h => absurd h (by rw [e2]; decide)) | refine And.intro (fun h => absurd h (by rw [e2]; decide)) (fun _ => ?_))
        refine ⟨1, [0, 1, 2, 3, 4, 5, 6, 7], ⟨⟨rfl, rfl, rfl⟩, ?_⟩, by omega, by dsimp only; omega⟩
        (repeat first | exact trivial | refine ⟨rfl, ?_⟩ | refine ⟨fun _ _ => ⟨rfl, trivial⟩, ?_⟩ | refine ⟨fun _ _ => trivial, ?_⟩ | refine ⟨by omega, ?_⟩ | refine ⟨fun _ _ => eqC_winS, ?_⟩ | refine ⟨fun _ _ => eqC_winM, ?_⟩ | refine ⟨fun _ _ => eqC_winB, ?_⟩ | refine ⟨fun _ _ => eqC_selfB, ?_⟩ | refine ⟨fun _ _ => eqC_mpB, ?_⟩)
        refine eqC_bts (eqC_bts ?_)
        refine ⟨rfl, fun j hj => ?_, ?_⟩
        · rcases lt2' hj with rfl | rfl <;> (repeat first | exact trivial | refine ⟨rfl, ?_⟩ | refine ⟨fun _ _ => ⟨rfl, trivial⟩, ?_⟩ | refine ⟨fun _ _ => trivial, ?_⟩ | refine ⟨by omega, ?_⟩ | refine ⟨fun _ _ => eqC_winS, ?_⟩ | refine ⟨fun _ _ => eqC_winM, ?_⟩ | refine ⟨fun _ _ => eqC_winB, ?_⟩ | refine ⟨fun _ _ => eqC_selfB, ?_⟩ | refine ⟨fun _ _ => eqC_mpB, ?_⟩)
        exact eqSegs_nil (eqSegs_nil (eqSegs_nil (eqSegs_nil (eqSegs_nil trivial))))
      | ok sp t f k at_ en =>
        rw [hm] at hany hres
        have hany : POk s0.l sp t f k at_ en := hany
        obtain ⟨T, F, K, hT, hF, hK, rfl, rfl, rfl, rfl, rfl⟩ := hres
        have hpo := hany
        obtain ⟨a1, a2, a3, a4, a5, a6, a7, a8, a9, a10⟩ := hany
        have hp : 0 < s0.l.length := by omega
        have hz := o0.pos hp
        rw [svB_row hz]
        have d1 : decide ((at_ : Int) < 1) = false := decide_eq_false (by omega)
        have d2 : decide ((s0.l.length : Int) < (at_ : Int)) = false := decide_eq_false (by omega)
        have d3 : decide ((en : Int) < (at_ : Int)) = false := decide_eq_false (by omega)
        have d4 : decide ((s0.l.length : Int) < (en : Int)) = false := decide_eq_false (by omega)
        have d5 : decide ((20 : Int) < (T.l.length : Int)) = false := decide_eq_false (by omega)
        have d6 : decide ((20 : Int) < (F.l.length : Int)) = false := decide_eq_false (by omega)
        have d7 : decide ((64 : Int) < (K.l.length : Int)) = false := decide_eq_false (by omega)
        have d8 : decide ((0 : Int) < 0) = false := rfl
        have d9 : decide (2#8 < sp) = false := decide_eq_false (by rw [BitVec.lt_def]; show ¬ 2 < sp.toNat; omega)
        have d10 : (!(decide (sp = 2#8) == decide (L s0.l 0 &&& 128#8 = 0#8))) = false := by rw [decide_eq_decide.2 a10, beq_self_eq_true]; rfl
        have hcp := o0.cap
        have hft := o0.fit
        (repeat first | refine And.intro (by omega) ?_ | refine And.intro (by decide) ?_ | refine And.intro rfl ?_ | (with_reducible refine frc_winA 0 rfl hp ?_) | refine And.intro (fun _ => ?_) (fun h => Bool.noConfusion h) | refine And.intro (fun h => Bool.noConfusion h) (fun _ => ?_))
        refine ⟨none, [], [(0, true), (1, true), (2, true), (3, true), (4, true), (5, true), (6, true), (7, true), (8, true), (9, true), (10, true), (11, true), (12, true), (13, true), (14, true), (15, true), (16, true), (17, true), (18, true), (19, true), (20, true), (21, true), (22, true), (23, true), (24, true), (25, true), (26, true), (27, true), (28, true), (29, true), (30, true), (31, true), (32, true), (33, true), (34, true), (35, true), (36, true), (37, true), (38, true), (39, true), (40, true), (41, true), (42, true), (43, true), (44, true), (45, true), (46, true), (47, true), (48, true), (49, true), (50, true), (51, true), (52, true), (53, true), (54, true), (55, true), (56, true), (57, true), (58, true), (59, true), (60, true), (61, true), (62, true), (63, true), (64, true), (65, true), (66, true), (67, true), (68, true), (69, true)], [], by kernel_rfl, ?_⟩
        (repeat first | refine And.intro (by omega) ?_ | refine And.intro (by decide) ?_ | refine And.intro rfl ?_ | (with_reducible refine frc_winA 0 rfl hp ?_) | refine And.intro (fun _ => ?_) (fun h => Bool.noConfusion h) | refine And.intro (fun h => Bool.noConfusion h) (fun _ => ?_) | refine And.intro (fun _ => ?_) (fun h => absurd h (by rw [d1]; decide)) | refine And.intro (fun h => absurd h (by rw [d1]; decide)) (fun _ => ?_) | refine And.intro (fun _ => ?_) (fun h => absurd h (by rw [d2]; decide)) | refine And.intro (fun h => absurd h (by rw [d2]; decide)) (fun _ => ?_) | refine And.intro (fun _ => ?_) (fun h => absurd h (by rw [d3]; decide)) | refine And.intro (fun h => absurd h (by rw [d3]; decide)) (fun _ => ?_) | refine And.intro (fun _ => ?_) (fun h => absurd h (by rw [d4]; decide)) | refine And.intro (fun h => absurd h (by rw [d4]; decide)) (fun _ => ?_) | refine And.intro (fun _ => ?_) (fun h => absurd h (by rw [d5]; decide)) | refine And.intro (fun h => absurd h (by rw [d5]; decide)) (fun _ => ?_) | refine And.intro (fun _ => ?_) (fun h => absurd h (by rw [d6]; decide)) | refine And.intro (fun h => absurd h (by rw [d6]; decide)) (fun _ => ?_) | refine And.intro (fun _ => ?_) (fun h => absurd h (by rw [d7]; decide)) | refine And.intro (fun h => absurd h (by rw [d7]; decide)) (fun _ => ?_) | refine And.intro (fun _ => ?_) (fun h => absurd h (by rw [d8]; decide)) | refine And.intro (fun h => absurd h (by rw [d8]; decide)) (fun _ => ?_) | refine And.intro (fun _ => ?_) (fun h => absurd h (by rw [d9]; decide)) | refine And.intro (fun h => absurd h (by rw [d9]; decide)) (fun _ => ?_) | refine And.intro (fun _ => ?_) (fun h => absurd h (by rw [d10]; decide)) | refine And.intro (fun h => absurd h (by rw [d10]; decide)) (fun _ => ?_))
        refine ⟨none, [14], [(0, true), (1, true), (2, true), (3, true), (4, true), (5, true), (6, true), (7, true), (8, true), (9, true), (10, false), (11, true), (12, true), (13, true), (14, false)], [15, 16], by kernel_rfl, ?_⟩
        (repeat first | refine And.intro (by omega) ?_ | refine And.intro (by decide) ?_ | refine And.intro rfl ?_ | (with_reducible refine frc_winA 0 rfl hp ?_) | refine And.intro (fun _ => ?_) (fun h => Bool.noConfusion h) | refine And.intro (fun h => Bool.noConfusion h) (fun _ => ?_))
        obtain ⟨oo, hoo⟩ : ∃ oo, (if s0.c = at_ then s0.o else s0.o + at_) = oo := ⟨_, rfl⟩
        have hoe : oo = s0.o + at_ ∨ (oo = s0.o ∧ s0.c = at_) := by
          by_cases hc : s0.c = at_
          · rw [if_pos hc] at hoo; right; exact ⟨hoo.symm, hc⟩
          · rw [if_neg hc] at hoo; left; exact hoo.symm
        have lB : ((s0.l.drop at_).take (en - at_)).length = en - at_ := by rw [List.length_take, List.length_drop]; omega
        refine call_same (fn_numbered sp (L s0.l 0) T F K ⟨s0.z, s0.N, oo, s0.c - at_, (s0.l.drop at_).take (en - at_)⟩ at_ en hT hF hK ⟨(by show oo + ((s0.l.drop at_).take (en - at_)).length ≤ s0.N; rw [lB]; omega), (by show ((s0.l.drop at_).take (en - at_)).length ≤ s0.c - at_; rw [lB]; omega), (fun h => by rw [hz] at h; cases h), (by show ((s0.l.drop at_).take (en - at_)).length ≤ 1000000; rw [lB]; omega)⟩) [8, 9, 10, 0] rfl ?_ ?_ (fun _ _ => trivial) ?_
        · (repeat first | exact trivial | refine ⟨rfl, ?_⟩ | refine ⟨fun _ _ => ⟨rfl, trivial⟩, ?_⟩ | refine ⟨fun _ _ => trivial, ?_⟩ | refine ⟨by omega, ?_⟩ | refine ⟨fun _ _ => eqC_winS, ?_⟩ | refine ⟨fun _ _ => eqC_winM, ?_⟩ | refine ⟨fun _ _ => eqC_winB, ?_⟩ | refine ⟨fun _ _ => eqC_selfB, ?_⟩ | refine ⟨fun _ _ => eqC_mpB, ?_⟩)
          exact ⟨by show (if s0.c = at_ then s0.o else s0.o + at_ * 1) = oo; rw [Nat.mul_one]; exact hoo, lB.symm, rfl, trivial⟩
        · refine eqC_btsM (eqC_btsM (eqC_btsM ?_))
          rw [svB_row (s := ⟨s0.z, s0.N, oo, s0.c - at_, (s0.l.drop at_).take (en - at_)⟩) hz]
          refine ⟨rfl, fun j hj => eqC_win (fun q hq => ?_) j, trivial⟩
          have hq : q < en - at_ := by rw [← lB]; exact hq
          have := winF_at s0.o s0.l.length (L s0.l) (i := at_ + q) (by omega)
          rw [show s0.o + (at_ + q) = oo + q by omega] at this
          show winF s0.o s0.l.length (L s0.l) (oo + q) = _
          rw [this, L_sub _ _ _ _ hq]
        rintro x hs ⟨r1, r2, r3⟩
        obtain ⟨fb, hfb⟩ : ∃ fb, L s0.l 0 = fb := ⟨_, rfl⟩
        have hm2 : manyB fb = (fb &&& 3#8).toNat + 1 := rfl
        have h256 := (fb &&& 3#8).isLt
        by_cases h2 : sp = 2#8
        · have e4 : decide (sp = 2#8) = true := decide_eq_true h2
          by_cases hlt : en - at_ < manyB (L s0.l 0)
          · obtain ⟨rfl, rfl⟩ := r1 (by show ((s0.l.drop at_).take (en - at_)).length < _; rw [lB]; exact hlt)
            clear r1 r2 r3
            have e5 : decide ((en : Int) - (at_ : Int) < (((L s0.l 0 &&& 3#8).toNat : Nat) : Int) + 1) = true := decide_eq_true (by rw [hfb] at hlt ⊢; omega)
            (repeat first | refine And.intro (by omega) ?_ | refine And.intro (by decide) ?_ | refine And.intro rfl ?_ | (with_reducible refine frc_winA 0 rfl hp ?_) | refine And.intro (fun _ => ?_) (fun h => Bool.noConfusion h) | refine And.intro (fun h => Bool.noConfusion h) (fun _ => ?_) | refine And.intro (fun _ => ?_) (fun h => absurd h (by rw [e4]; decide)) | refine And.intro (fun h => absurd h (by rw [e4]; decide)) (fun _ => ?_) | refine And.intro (fun _ => ?_) (fun h => absurd h (by rw [e5]; decide)) | refine And.intro (fun h => absurd h (by rw [e5]; decide)) (fun _ => ?_))
            refine ⟨1, [0, 1, 2, 3, 4, 5, 6, 7], ⟨⟨rfl, rfl, rfl⟩, ?_⟩, by omega, by dsimp only; omega⟩
            (repeat first | exact trivial | refine ⟨rfl, ?_⟩ | refine ⟨fun _ _ => ⟨rfl, trivial⟩, ?_⟩ | refine ⟨fun _ _ => trivial, ?_⟩ | refine ⟨by omega, ?_⟩ | refine ⟨fun _ _ => eqC_winS, ?_⟩ | refine ⟨fun _ _ => eqC_winM, ?_⟩ | refine ⟨fun _ _ => eqC_winB, ?_⟩ | refine ⟨fun _ _ => eqC_selfB, ?_⟩ | refine ⟨fun _ _ => eqC_mpB, ?_⟩)
            refine eqC_bts ?_
            refine ⟨rfl, fun j hj => ?_, ?_⟩
            · rcases lt2' hj with rfl | rfl <;> (repeat first | exact trivial | refine ⟨rfl, ?_⟩ | refine ⟨fun _ _ => ⟨rfl, trivial⟩, ?_⟩ | refine ⟨fun _ _ => trivial, ?_⟩ | refine ⟨by omega, ?_⟩ | refine ⟨fun _ _ => eqC_winS, ?_⟩ | refine ⟨fun _ _ => eqC_winM, ?_⟩ | refine ⟨fun _ _ => eqC_winB, ?_⟩ | refine ⟨fun _ _ => eqC_selfB, ?_⟩ | refine ⟨fun _ _ => eqC_mpB, ?_⟩)
            exact eqSegs_nil (eqSegs_nil (eqSegs_nil (eqSegs_nil (eqSegs_nil trivial))))
          have e5 : decide ((en : Int) - (at_ : Int) < (((L s0.l 0 &&& 3#8).toNat : Nat) : Int) + 1) = false := decide_eq_false (by rw [hfb] at hlt ⊢; omega)
          have hge : manyB (L s0.l 0) ≤ ((s0.l.drop at_).take (en - at_)).length := by rw [lB]; omega
          by_cases hb : noneB sp (L s0.l 0) = 0#8
          rotate_left
          · obtain ⟨rfl, rfl⟩ := r2 hge hb
            clear r1 r2 r3
            have e6 : decide (L s0.l 0 &&& 24#8 ≠ 0#8) = true := decide_eq_true (by unfold noneB at hb; rw [if_pos h2] at hb; exact hb)
            (repeat first | refine And.intro (by omega) ?_ | refine And.intro (by decide) ?_ | refine And.intro rfl ?_ | (with_reducible refine frc_winA 0 rfl hp ?_) | refine And.intro (fun _ => ?_) (fun h => Bool.noConfusion h) | refine And.intro (fun h => Bool.noConfusion h) (fun _ => ?_) | refine And.intro (fun _ => ?_) (fun h => absurd h (by rw [e4]; decide)) | refine And.intro (fun h => absurd h (by rw [e4]; decide)) (fun _ => ?_) | refine And.intro (fun _ => ?_) (fun h => absurd h (by rw [e5]; decide)) | refine And.intro (fun h => absurd h (by rw [e5]; decide)) (fun _ => ?_) | refine And.intro (fun _ => ?_) (fun h => absurd h (by rw [e6]; decide)) | refine And.intro (fun h => absurd h (by rw [e6]; decide)) (fun _ => ?_))
            refine ⟨1, [0, 1, 2, 3, 4, 5, 6, 7], ⟨⟨rfl, rfl, rfl⟩, ?_⟩, by omega, by dsimp only; omega⟩
            (repeat first | exact trivial | refine ⟨rfl, ?_⟩ | refine ⟨fun _ _ => ⟨rfl, trivial⟩, ?_⟩ | refine ⟨fun _ _ => trivial, ?_⟩ | refine ⟨by omega, ?_⟩ | refine ⟨fun _ _ => eqC_winS, ?_⟩ | refine ⟨fun _ _ => eqC_winM, ?_⟩ | refine ⟨fun _ _ => eqC_winB, ?_⟩ | refine ⟨fun _ _ => eqC_selfB, ?_⟩ | refine ⟨fun _ _ => eqC_mpB, ?_⟩)
            refine eqC_bts ?_
            refine ⟨rfl, fun j hj => ?_, ?_⟩
            · rcases lt2' hj with rfl | rfl <;> (repeat first | exact trivial | refine ⟨rfl, ?_⟩ | refine ⟨fun _ _ => ⟨rfl, trivial⟩, ?_⟩ | refine ⟨fun _ _ => trivial, ?_⟩ | refine ⟨by omega, ?_⟩ | refine ⟨fun _ _ => eqC_winS, ?_⟩ | refine ⟨fun _ _ => eqC_winM, ?_⟩ | refine ⟨fun _ _ => eqC_winB, ?_⟩ | refine ⟨fun _ _ => eqC_selfB, ?_⟩ | refine ⟨fun _ _ => eqC_mpB, ?_⟩)
            exact eqSegs_nil (eqSegs_nil (eqSegs_nil (eqSegs_nil (eqSegs_nil trivial))))
          obtain ⟨g, og, gs, gt, gf, gk, gu, gn, rfl, rfl⟩ := r3 hge hb
          clear r1 r2 r3
          have e6 : decide (L s0.l 0 &&& 24#8 ≠ 0#8) = false := decide_eq_false (fun q => q (by unfold noneB at hb; rw [if_pos h2] at hb; exact hb))
          (repeat first | refine And.intro (by omega) ?_ | refine And.intro (by decide) ?_ | refine And.intro rfl ?_ | (with_reducible refine frc_winA 0 rfl hp ?_) | refine And.intro (fun _ => ?_) (fun h => Bool.noConfusion h) | refine And.intro (fun h => Bool.noConfusion h) (fun _ => ?_) | refine And.intro (fun _ => ?_) (fun h => absurd h (by rw [e4]; decide)) | refine And.intro (fun h => absurd h (by rw [e4]; decide)) (fun _ => ?_) | refine And.intro (fun _ => ?_) (fun h => absurd h (by rw [e5]; decide)) | refine And.intro (fun h => absurd h (by rw [e5]; decide)) (fun _ => ?_) | refine And.intro (fun _ => ?_) (fun h => absurd h (by rw [e6]; decide)) | refine And.intro (fun h => absurd h (by rw [e6]; decide)) (fun _ => ?_))
          have gn' : g.n.l = (s0.l.drop at_).take (manyB (L s0.l 0)) := by
            rw [gn]
            show ((s0.l.drop at_).take (en - at_)).take (manyB (L s0.l 0)) = _
            rw [List.take_take, Nat.min_eq_left (by omega)]
          have lM : ((s0.l.drop at_).take (manyB (L s0.l 0))).length = manyB (L s0.l 0) := by rw [List.length_take, List.length_drop]; omega
          have hck : checkM g = 0 := numbered_ok hpo gs gt gf gk gu (by rw [gn', lM])
          rw [hfb] at gn' lM hlt hge
          refine ⟨none, [], [(0, true), (1, true), (2, true), (3, true), (4, true), (5, true), (6, true), (7, true), (8, true), (9, true), (10, true), (11, true), (12, true), (13, true), (14, true), (15, true), (16, true), (17, true), (18, true), (19, false), (20, true), (21, true)], [], by kernel_rfl, ?_⟩
          (repeat first | refine And.intro (by omega) ?_ | refine And.intro (by decide) ?_ | refine And.intro rfl ?_ | (with_reducible refine frc_winA 0 rfl hp ?_) | refine And.intro (fun _ => ?_) (fun h => Bool.noConfusion h) | refine And.intro (fun h => Bool.noConfusion h) (fun _ => ?_))
          refine sn_btsM rfl og.n.fit (fun h => by rw [og.n.nil h]; rfl) (fun g1 hg1 => ?_)
          refine ⟨U8 g.n.l, str_of rfl hg1, ?_⟩
          rw [hfb]
          (repeat first | refine And.intro (by omega) ?_ | refine And.intro (by decide) ?_ | refine And.intro rfl ?_ | (with_reducible refine frc_winA 0 rfl hp ?_) | refine And.intro (fun _ => ?_) (fun h => Bool.noConfusion h) | refine And.intro (fun h => Bool.noConfusion h) (fun _ => ?_))
          refine And.intro (show (0 : Int) ≤ (at_ : Int) ∧ (at_ : Int) ≤ (at_ : Int) + ((((fb &&& 3#8).toNat : Nat) : Int) + 1) ∧ (at_ : Int) + ((((fb &&& 3#8).toNat : Nat) : Int) + 1) ≤ (s0.c : Int) by omega) ?_
          refine frcN_of (m := at_) rfl ?_
          refine frcN_of (m := at_ + manyB fb) (by show ((at_ : Int) + ((((fb &&& 3#8).toNat : Nat) : Int) + 1)).toNat = _; omega) ?_
          refine frcN_of (m := oo) (by rw [← hoo]; show (if s0.c = at_ then s0.o else s0.o + at_ * 1) = _; rw [Nat.mul_one]) ?_
          refine frcN_of (m := manyB fb) (by omega) ?_
          refine frcN_of (m := s0.c - at_) rfl ?_
          (repeat first | refine And.intro (by omega) ?_ | refine And.intro (by decide) ?_ | refine And.intro rfl ?_ | (with_reducible refine frc_winA 0 rfl hp ?_) | refine And.intro (fun _ => ?_) (fun h => Bool.noConfusion h) | refine And.intro (fun h => Bool.noConfusion h) (fun _ => ?_))
          refine sn_sub (N := s0.N) (f := winF s0.o s0.l.length (L s0.l)) (l := (s0.l.drop at_).take (manyB fb)) rfl (by omega) (fun i hi => ?_) (fun h => by rw [hz] at h; cases h) (fun g2 hg2 => ?_)
          · have hi : i < manyB fb := hi
            rw [lB] at hge
            have := winF_at s0.o s0.l.length (L s0.l) (i := at_ + i) (by omega)
            rw [show s0.o + (at_ + i) = oo + i by omega] at this
            rw [this, L_sub _ _ _ _ hi]
          refine ⟨U8 ((s0.l.drop at_).take (manyB fb)), str_of lM hg2, ?_⟩
          have e7 : (!decide (U8 g.n.l = U8 ((s0.l.drop at_).take (manyB fb)))) = false := by rw [gn', decide_eq_true rfl]; rfl
          (repeat first | refine And.intro (by omega) ?_ | refine And.intro (by decide) ?_ | refine And.intro rfl ?_ | (with_reducible refine frc_winA 0 rfl hp ?_) | refine And.intro (fun _ => ?_) (fun h => Bool.noConfusion h) | refine And.intro (fun h => Bool.noConfusion h) (fun _ => ?_) | refine And.intro (fun _ => ?_) (fun h => absurd h (by rw [e7]; decide)) | refine And.intro (fun h => absurd h (by rw [e7]; decide)) (fun _ => ?_))
          refine call_same (fn_hcheck g) [12, 13, 14, 15] rfl (by (repeat first | exact trivial | refine ⟨rfl, ?_⟩ | refine ⟨fun _ _ => ⟨rfl, trivial⟩, ?_⟩ | refine ⟨fun _ _ => trivial, ?_⟩ | refine ⟨by omega, ?_⟩ | refine ⟨fun _ _ => eqC_winS, ?_⟩ | refine ⟨fun _ _ => eqC_winM, ?_⟩ | refine ⟨fun _ _ => eqC_winB, ?_⟩ | refine ⟨fun _ _ => eqC_selfB, ?_⟩ | refine ⟨fun _ _ => eqC_mpB, ?_⟩)) ?_ (fun _ _ => trivial) ?_
          · refine eqC_btsM (eqC_btsM (eqC_btsM (eqC_btsM ?_)))
            (repeat first | exact trivial | refine ⟨rfl, ?_⟩ | refine ⟨fun _ _ => ⟨rfl, trivial⟩, ?_⟩ | refine ⟨fun _ _ => trivial, ?_⟩ | refine ⟨by omega, ?_⟩ | refine ⟨fun _ _ => eqC_winS, ?_⟩ | refine ⟨fun _ _ => eqC_winM, ?_⟩ | refine ⟨fun _ _ => eqC_winB, ?_⟩ | refine ⟨fun _ _ => eqC_selfB, ?_⟩ | refine ⟨fun _ _ => eqC_mpB, ?_⟩)
          rintro x hs ⟨rfl, rfl⟩
          rw [hck]
          (repeat first | refine And.intro (by omega) ?_ | refine And.intro (by decide) ?_ | refine And.intro rfl ?_ | (with_reducible refine frc_winA 0 rfl hp ?_) | refine And.intro (fun _ => ?_) (fun h => Bool.noConfusion h) | refine And.intro (fun h => Bool.noConfusion h) (fun _ => ?_) | refine And.intro (fun _ => ?_) (fun h => absurd h (by rw [e7]; decide)) | refine And.intro (fun h => absurd h (by rw [e7]; decide)) (fun _ => ?_))
          refine ⟨1, [0, 1, 2, 3, 4, 5, 6, 7], ⟨⟨rfl, rfl, rfl⟩, ?_⟩, by omega, by dsimp only; omega⟩
          (repeat first | exact trivial | refine ⟨rfl, ?_⟩ | refine ⟨fun _ _ => ⟨rfl, trivial⟩, ?_⟩ | refine ⟨fun _ _ => trivial, ?_⟩ | refine ⟨by omega, ?_⟩ | refine ⟨fun _ _ => eqC_winS, ?_⟩ | refine ⟨fun _ _ => eqC_winM, ?_⟩ | refine ⟨fun _ _ => eqC_winB, ?_⟩ | refine ⟨fun _ _ => eqC_selfB, ?_⟩ | refine ⟨fun _ _ => eqC_mpB, ?_⟩)
          refine eqC_bts ?_
          refine ⟨rfl, fun j hj => ?_, ?_⟩
          · rcases lt2' hj with rfl | rfl <;> (repeat first | exact trivial | refine ⟨rfl, ?_⟩ | refine ⟨fun _ _ => ⟨rfl, trivial⟩, ?_⟩ | refine ⟨fun _ _ => trivial, ?_⟩ | refine ⟨by omega, ?_⟩ | refine ⟨fun _ _ => eqC_winS, ?_⟩ | refine ⟨fun _ _ => eqC_winM, ?_⟩ | refine ⟨fun _ _ => eqC_winB, ?_⟩ | refine ⟨fun _ _ => eqC_selfB, ?_⟩ | refine ⟨fun _ _ => eqC_mpB, ?_⟩)
          exact eqSegs_nil (eqSegs_nil (eqSegs_nil (eqSegs_nil (eqSegs_nil trivial))))
        · have e4 : decide (sp = 2#8) = false := decide_eq_false h2
          by_cases hlt : en - at_ < manyB (L s0.l 0)
          · obtain ⟨rfl, rfl⟩ := r1 (by show ((s0.l.drop at_).take (en - at_)).length < _; rw [lB]; exact hlt)
            clear r1 r2 r3
            have e5 : decide ((en : Int) - (at_ : Int) < (((L s0.l 0 &&& 3#8).toNat : Nat) : Int) + 1) = true := decide_eq_true (by rw [hfb] at hlt ⊢; omega)
            (repeat first | refine And.intro (by omega) ?_ | refine And.intro (by decide) ?_ | refine And.intro rfl ?_ | (with_reducible refine frc_winA 0 rfl hp ?_) | refine And.intro (fun _ => ?_) (fun h => Bool.noConfusion h) | refine And.intro (fun h => Bool.noConfusion h) (fun _ => ?_) | refine And.intro (fun _ => ?_) (fun h => absurd h (by rw [e4]; decide)) | refine And.intro (fun h => absurd h (by rw [e4]; decide)) (fun _ => ?_) | refine And.intro (fun _ => ?_) (fun h => absurd h (by rw [e5]; decide)) | refine And.intro (fun h => absurd h (by rw [e5]; decide)) (fun _ => ?_))
            refine ⟨1, [0, 1, 2, 3, 4, 5, 6, 7], ⟨⟨rfl, rfl, rfl⟩, ?_⟩, by omega, by dsimp only; omega⟩
            (repeat first | exact trivial | refine ⟨rfl, ?_⟩ | refine ⟨fun _ _ => ⟨rfl, trivial⟩, ?_⟩ | refine ⟨fun _ _ => trivial, ?_⟩ | refine ⟨by omega, ?_⟩ | refine ⟨fun _ _ => eqC_winS, ?_⟩ | refine ⟨fun _ _ => eqC_winM, ?_⟩ | refine ⟨fun _ _ => eqC_winB, ?_⟩ | refine ⟨fun _ _ => eqC_selfB, ?_⟩ | refine ⟨fun _ _ => eqC_mpB, ?_⟩)
            refine eqC_bts ?_
            refine ⟨rfl, fun j hj => ?_, ?_⟩
            · rcases lt2' hj with rfl | rfl <;> (repeat first | exact trivial | refine ⟨rfl, ?_⟩ | refine ⟨fun _ _ => ⟨rfl, trivial⟩, ?_⟩ | refine ⟨fun _ _ => trivial, ?_⟩ | refine ⟨by omega, ?_⟩ | refine ⟨fun _ _ => eqC_winS, ?_⟩ | refine ⟨fun _ _ => eqC_winM, ?_⟩ | refine ⟨fun _ _ => eqC_winB, ?_⟩ | refine ⟨fun _ _ => eqC_selfB, ?_⟩ | refine ⟨fun _ _ => eqC_mpB, ?_⟩)
            exact eqSegs_nil (eqSegs_nil (eqSegs_nil (eqSegs_nil (eqSegs_nil trivial))))
          have e5 : decide ((en : Int) - (at_ : Int) < (((L s0.l 0 &&& 3#8).toNat : Nat) : Int) + 1) = false := decide_eq_false (by rw [hfb] at hlt ⊢; omega)
          have hge : manyB (L s0.l 0) ≤ ((s0.l.drop at_).take (en - at_)).length := by rw [lB]; omega
          by_cases hb : noneB sp (L s0.l 0) = 0#8
          rotate_left
          · obtain ⟨rfl, rfl⟩ := r2 hge hb
            clear r1 r2 r3
            have e6 : decide (L s0.l 0 &&& 12#8 ≠ 0#8) = true := decide_eq_true (by unfold noneB at hb; rw [if_neg h2] at hb; exact hb)
            (repeat first | refine And.intro (by omega) ?_ | refine And.intro (by decide) ?_ | refine And.intro rfl ?_ | (with_reducible refine frc_winA 0 rfl hp ?_) | refine And.intro (fun _ => ?_) (fun h => Bool.noConfusion h) | refine And.intro (fun h => Bool.noConfusion h) (fun _ => ?_) | refine And.intro (fun _ => ?_) (fun h => absurd h (by rw [e4]; decide)) | refine And.intro (fun h => absurd h (by rw [e4]; decide)) (fun _ => ?_) | refine And.intro (fun _ => ?_) (fun h => absurd h (by rw [e5]; decide)) | refine And.intro (fun h => absurd h (by rw [e5]; decide)) (fun _ => ?_) | refine And.intro (fun _ => ?_) (fun h => absurd h (by rw [e6]; decide)) | refine And.intro (fun h => absurd h (by rw [e6]; decide)) (fun _ => ?_))
            refine ⟨1, [0, 1, 2, 3, 4, 5, 6, 7], ⟨⟨rfl, rfl, rfl⟩, ?_⟩, by omega, by dsimp only; omega⟩
            (repeat first | exact trivial | refine ⟨rfl, ?_⟩ | refine ⟨fun _ _ => ⟨rfl, trivial⟩, ?_⟩ | refine ⟨fun _ _ => trivial, ?_⟩ | refine ⟨by omega, ?_⟩ | refine ⟨fun _ _ => eqC_winS, ?_⟩ | refine ⟨fun _ _ => eqC_winM, ?_⟩ | refine ⟨fun _ _ => eqC_winB, ?_⟩ | refine ⟨fun _ _ => eqC_selfB, ?_⟩ | refine ⟨fun _ _ => eqC_mpB, ?_⟩)
            refine eqC_bts ?_
            refine ⟨rfl, fun j hj => ?_, ?_⟩
            · rcases lt2' hj with rfl | rfl <;> (repeat first | exact trivial | refine ⟨rfl, ?_⟩ | refine ⟨fun _ _ => ⟨rfl, trivial⟩, ?_⟩ | refine ⟨fun _ _ => trivial, ?_⟩ | refine ⟨by omega, ?_⟩ | refine ⟨fun _ _ => eqC_winS, ?_⟩ | refine ⟨fun _ _ => eqC_winM, ?_⟩ | refine ⟨fun _ _ => eqC_winB, ?_⟩ | refine ⟨fun _ _ => eqC_selfB, ?_⟩ | refine ⟨fun _ _ => eqC_mpB, ?_⟩)
            exact eqSegs_nil (eqSegs_nil (eqSegs_nil (eqSegs_nil (eqSegs_nil trivial))))
          obtain ⟨g, og, gs, gt, gf, gk, gu, gn, rfl, rfl⟩ := r3 hge hb
          clear r1 r2 r3
          have e6 : decide (L s0.l 0 &&& 12#8 ≠ 0#8) = false := decide_eq_false (fun q => q (by unfold noneB at hb; rw [if_neg h2] at hb; exact hb))
          (repeat first | refine And.intro (by omega) ?_ | refine And.intro (by decide) ?_ | refine And.intro rfl ?_ | (with_reducible refine frc_winA 0 rfl hp ?_) | refine And.intro (fun _ => ?_) (fun h => Bool.noConfusion h) | refine And.intro (fun h => Bool.noConfusion h) (fun _ => ?_) | refine And.intro (fun _ => ?_) (fun h => absurd h (by rw [e4]; decide)) | refine And.intro (fun h => absurd h (by rw [e4]; decide)) (fun _ => ?_) | refine And.intro (fun _ => ?_) (fun h => absurd h (by rw [e5]; decide)) | refine And.intro (fun h => absurd h (by rw [e5]; decide)) (fun _ => ?_) | refine And.intro (fun _ => ?_) (fun h => absurd h (by rw [e6]; decide)) | refine And.intro (fun h => absurd h (by rw [e6]; decide)) (fun _ => ?_))
          have gn' : g.n.l = (s0.l.drop at_).take (manyB (L s0.l 0)) := by
            rw [gn]
            show ((s0.l.drop at_).take (en - at_)).take (manyB (L s0.l 0)) = _
            rw [List.take_take, Nat.min_eq_left (by omega)]
          have lM : ((s0.l.drop at_).take (manyB (L s0.l 0))).length = manyB (L s0.l 0) := by rw [List.length_take, List.length_drop]; omega
          have hck : checkM g = 0 := numbered_ok hpo gs gt gf gk gu (by rw [gn', lM])
          rw [hfb] at gn' lM hlt hge
          refine ⟨none, [], [(0, true), (1, true), (2, true), (3, true), (4, true), (5, true), (6, true), (7, true), (8, true), (9, true), (10, true), (11, true), (12, true), (13, true), (14, true), (15, true), (16, true), (17, true), (18, true), (19, false), (20, true), (21, true)], [], by kernel_rfl, ?_⟩
          (repeat first | refine And.intro (by omega) ?_ | refine And.intro (by decide) ?_ | refine And.intro rfl ?_ | (with_reducible refine frc_winA 0 rfl hp ?_) | refine And.intro (fun _ => ?_) (fun h => Bool.noConfusion h) | refine And.intro (fun h => Bool.noConfusion h) (fun _ => ?_))
          refine sn_btsM rfl og.n.fit (fun h => by rw [og.n.nil h]; rfl) (fun g1 hg1 => ?_)
          refine ⟨U8 g.n.l, str_of rfl hg1, ?_⟩
          rw [hfb]
          (repeat first | refine And.intro (by omega) ?_ | refine And.intro (by decide) ?_ | refine And.intro rfl ?_ | (with_reducible refine frc_winA 0 rfl hp ?_) | refine And.intro (fun _ => ?_) (fun h => Bool.noConfusion h) | refine And.intro (fun h => Bool.noConfusion h) (fun _ => ?_))
          refine And.intro (show (0 : Int) ≤ (at_ : Int) ∧ (at_ : Int) ≤ (at_ : Int) + ((((fb &&& 3#8).toNat : Nat) : Int) + 1) ∧ (at_ : Int) + ((((fb &&& 3#8).toNat : Nat) : Int) + 1) ≤ (s0.c : Int) by omega) ?_
          refine frcN_of (m := at_) rfl ?_
          refine frcN_of (m := at_ + manyB fb) (by show ((at_ : Int) + ((((fb &&& 3#8).toNat : Nat) : Int) + 1)).toNat = _; omega) ?_
          refine frcN_of (m := oo) (by rw [← hoo]; show (if s0.c = at_ then s0.o else s0.o + at_ * 1) = _; rw [Nat.mul_one]) ?_
          refine frcN_of (m := manyB fb) (by omega) ?_
          refine frcN_of (m := s0.c - at_) rfl ?_
          (repeat first | refine And.intro (by omega) ?_ | refine And.intro (by decide) ?_ | refine And.intro rfl ?_ | (with_reducible refine frc_winA 0 rfl hp ?_) | refine And.intro (fun _ => ?_) (fun h => Bool.noConfusion h) | refine And.intro (fun h => Bool.noConfusion h) (fun _ => ?_))
          refine sn_sub (N := s0.N) (f := winF s0.o s0.l.length (L s0.l)) (l := (s0.l.drop at_).take (manyB fb)) rfl (by omega) (fun i hi => ?_) (fun h => by rw [hz] at h; cases h) (fun g2 hg2 => ?_)
          · have hi : i < manyB fb := hi
            rw [lB] at hge
            have := winF_at s0.o s0.l.length (L s0.l) (i := at_ + i) (by omega)
            rw [show s0.o + (at_ + i) = oo + i by omega] at this
            rw [this, L_sub _ _ _ _ hi]
          refine ⟨U8 ((s0.l.drop at_).take (manyB fb)), str_of lM hg2, ?_⟩
          have e7 : (!decide (U8 g.n.l = U8 ((s0.l.drop at_).take (manyB fb)))) = false := by rw [gn', decide_eq_true rfl]; rfl
          (repeat first | refine And.intro (by omega) ?_ | refine And.intro (by decide) ?_ | refine And.intro rfl ?_ | (with_reducible refine frc_winA 0 rfl hp ?_) | refine And.intro (fun _ => ?_) (fun h => Bool.noConfusion h) | refine And.intro (fun h => Bool.noConfusion h) (fun _ => ?_) | refine And.intro (fun _ => ?_) (fun h => absurd h (by rw [e7]; decide)) | refine And.intro (fun h => absurd h (by rw [e7]; decide)) (fun _ => ?_))
          refine call_same (fn_hcheck g) [12, 13, 14, 15] rfl (by (repeat first | exact trivial | refine ⟨rfl, ?_⟩ | refine ⟨fun _ _ => ⟨rfl, trivial⟩, ?_⟩ | refine ⟨fun _ _ => trivial, ?_⟩ | refine ⟨by omega, ?_⟩ | refine ⟨fun _ _ => eqC_winS, ?_⟩ | refine ⟨fun _ _ => eqC_winM, ?_⟩ | refine ⟨fun _ _ => eqC_winB, ?_⟩ | refine ⟨fun _ _ => eqC_selfB, ?_⟩ | refine ⟨fun _ _ => eqC_mpB, ?_⟩)) ?_ (fun _ _ => trivial) ?_
          · refine eqC_btsM (eqC_btsM (eqC_btsM (eqC_btsM ?_)))
            (repeat first | exact trivial | refine ⟨rfl, ?_⟩ | refine ⟨fun _ _ => ⟨rfl, trivial⟩, ?_⟩ | refine ⟨fun _ _ => trivial, ?_⟩ | refine ⟨by omega, ?_⟩ | refine ⟨fun _ _ => eqC_winS, ?_⟩ | refine ⟨fun _ _ => eqC_winM, ?_⟩ | refine ⟨fun _ _ => eqC_winB, ?_⟩ | refine ⟨fun _ _ => eqC_selfB, ?_⟩ | refine ⟨fun _ _ => eqC_mpB, ?_⟩)
          rintro x hs ⟨rfl, rfl⟩
          rw [hck]
          (repeat first | refine And.intro (by omega) ?_ | refine And.intro (by decide) ?_ | refine And.intro rfl ?_ | (with_reducible refine frc_winA 0 rfl hp ?_) | refine And.intro (fun _ => ?_) (fun h => Bool.noConfusion h) | refine And.intro (fun h => Bool.noConfusion h) (fun _ => ?_) | refine And.intro (fun _ => ?_) (fun h => absurd h (by rw [e7]; decide)) | refine And.intro (fun h => absurd h (by rw [e7]; decide)) (fun _ => ?_))
          refine ⟨1, [0, 1, 2, 3, 4, 5, 6, 7], ⟨⟨rfl, rfl, rfl⟩, ?_⟩, by omega, by dsimp only; omega⟩
          (repeat first | exact trivial | refine ⟨rfl, ?_⟩ | refine ⟨fun _ _ => ⟨rfl, trivial⟩, ?_⟩ | refine ⟨fun _ _ => trivial, ?_⟩ | refine ⟨by omega, ?_⟩ | refine ⟨fun _ _ => eqC_winS, ?_⟩ | refine ⟨fun _ _ => eqC_winM, ?_⟩ | refine ⟨fun _ _ => eqC_winB, ?_⟩ | refine ⟨fun _ _ => eqC_selfB, ?_⟩ | refine ⟨fun _ _ => eqC_mpB, ?_⟩)
          refine eqC_bts ?_
          refine ⟨rfl, fun j hj => ?_, ?_⟩
          · rcases lt2' hj with rfl | rfl <;> (repeat first | exact trivial | refine ⟨rfl, ?_⟩ | refine ⟨fun _ _ => ⟨rfl, trivial⟩, ?_⟩ | refine ⟨fun _ _ => trivial, ?_⟩ | refine ⟨by omega, ?_⟩ | refine ⟨fun _ _ => eqC_winS, ?_⟩ | refine ⟨fun _ _ => eqC_winM, ?_⟩ | refine ⟨fun _ _ => eqC_winB, ?_⟩ | refine ⟨fun _ _ => eqC_selfB, ?_⟩ | refine ⟨fun _ _ => eqC_mpB, ?_⟩)
          exact eqSegs_nil (eqSegs_nil (eqSegs_nil (eqSegs_nil (eqSegs_nil trivial))))
    · refine frc_eq (y := svC 1 s1) rfl ?_
      (repeat first | refine And.intro (by omega) ?_ | refine And.intro (by decide) ?_ | (with_reducible refine frc_parts (by first | omega | decide) ?_) | (with_reducible refine frc_bytesL (by first | omega | decide) ?_) | refine And.intro rfl ?_)
      refine call_same (fn_parse s1 o1 id) [1] rfl (by (repeat first | exact trivial | refine ⟨rfl, ?_⟩ | refine ⟨fun _ _ => ⟨rfl, trivial⟩, ?_⟩ | refine ⟨fun _ _ => trivial, ?_⟩ | refine ⟨by omega, ?_⟩ | refine ⟨fun _ _ => eqC_winS, ?_⟩ | refine ⟨fun _ _ => eqC_winM, ?_⟩ | refine ⟨fun _ _ => eqC_winB, ?_⟩ | refine ⟨fun _ _ => eqC_selfB, ?_⟩ | refine ⟨fun _ _ => eqC_mpB, ?_⟩)) (eqC_bts trivial) (fun _ _ => trivial) ?_
      have hany := parseP_any s1.l id
      rintro x hs hres
      cases hm : parseP s1.l id with
      | no e =>
        rw [hm] at hany hres
        have hany : e ≠ 0 := hany
        obtain ⟨rfl, rfl⟩ := hres
        have e2 : decide (e ≠ 0) = true := decide_eq_true hany
        (repeat first | refine And.intro (by omega) ?_ | refine And.intro (by decide) ?_ | refine And.intro rfl ?_ | refine And.intro (fun _ => ?_) (fun h => Bool.noConfusion h) | refine And.intro (fun h => Bool.noConfusion h) (fun _ => ?_) | refine And.intro (fun _ => ?_) (fun h => absurd h (by rw [e2]; decide)) | refine And.intro (fun h => absurd h (by rw [e2]; decide)) (fun _ => ?_))
        refine call_same (fn_hsame ⟨0#8, nilS, nilS, nilS, false, nilS⟩ ⟨0#8, nilS, nilS, nilS, false, nilS⟩ ⟨nil_ok, nil_ok, nil_ok, nil_ok⟩ ⟨nil_ok, nil_ok, nil_ok, nil_ok⟩) [0, 1, 2, 3, 4, 5, 6, 7] rfl (by (repeat first | exact trivial | refine ⟨rfl, ?_⟩ | refine ⟨fun _ _ => ⟨rfl, trivial⟩, ?_⟩ | refine ⟨fun _ _ => trivial, ?_⟩ | refine ⟨by omega, ?_⟩ | refine ⟨fun _ _ => eqC_winS, ?_⟩ | refine ⟨fun _ _ => eqC_winM, ?_⟩ | refine ⟨fun _ _ => eqC_winB, ?_⟩ | refine ⟨fun _ _ => eqC_selfB, ?_⟩ | refine ⟨fun _ _ => eqC_mpB, ?_⟩)) (eqSegs_nil (eqSegs_nil (eqSegs_nil (eqSegs_nil (eqSegs_nil (eqSegs_nil (eqSegs_nil (eqSegs_nil trivial)))))))) (fun _ _ => trivial) ?_
        rintro x hs ⟨rfl, rfl⟩
        rw [show sameM ⟨0#8, nilS, nilS, nilS, false, nilS⟩ ⟨0#8, nilS, nilS, nilS, false, nilS⟩ = true from rfl]
        (repeat first | refine And.intro (by omega) ?_ | refine And.intro (by decide) ?_ | refine And.intro rfl ?_ | refine And.intro (fun _ => ?_) (fun h => Bool.noConfusion h) | refine And.intro (fun h => Bool.noConfusion h) (fun _ => ?_) | refine And.intro (fun _ => ?_) (fun h => absurd h (by rw [e2]; decide)) | refine And.intro (fun h => absurd h (by rw [e2]; decide)) (fun _ => ?_))
        refine ⟨2, [0, 1, 2, 3, 4, 5, 6, 7], ⟨⟨rfl, rfl, rfl⟩, ?_⟩, by omega, by dsimp only; omega⟩
        (repeat first | exact trivial | refine ⟨rfl, ?_⟩ | refine ⟨fun _ _ => ⟨rfl, trivial⟩, ?_⟩ | refine ⟨fun _ _ => trivial, ?_⟩ | refine ⟨by omega, ?_⟩ | refine ⟨fun _ _ => eqC_winS, ?_⟩ | refine ⟨fun _ _ => eqC_winM, ?_⟩ | refine ⟨fun _ _ => eqC_winB, ?_⟩ | refine ⟨fun _ _ => eqC_selfB, ?_⟩ | refine ⟨fun _ _ => eqC_mpB, ?_⟩)
        refine eqC_bts (eqC_bts ?_)
        refine ⟨rfl, fun j hj => ?_, ?_⟩
        · rcases lt2' hj with rfl | rfl <;> (repeat first | exact trivial | refine ⟨rfl, ?_⟩ | refine ⟨fun _ _ => ⟨rfl, trivial⟩, ?_⟩ | refine ⟨fun _ _ => trivial, ?_⟩ | refine ⟨by omega, ?_⟩ | refine ⟨fun _ _ => eqC_winS, ?_⟩ | refine ⟨fun _ _ => eqC_winM, ?_⟩ | refine ⟨fun _ _ => eqC_winB, ?_⟩ | refine ⟨fun _ _ => eqC_selfB, ?_⟩ | refine ⟨fun _ _ => eqC_mpB, ?_⟩)
        exact eqSegs_nil (eqSegs_nil (eqSegs_nil (eqSegs_nil (eqSegs_nil trivial))))
      | ok sp t f k at_ en =>
        rw [hm] at hany hres
        have hany : POk s1.l sp t f k at_ en := hany
        obtain ⟨T, F, K, hT, hF, hK, rfl, rfl, rfl, rfl, rfl⟩ := hres
        have hpo := hany
        obtain ⟨a1, a2, a3, a4, a5, a6, a7, a8, a9, a10⟩ := hany
        have hp : 0 < s1.l.length := by omega
        have hz := o1.pos hp
        rw [svB_row hz]
        have d1 : decide ((at_ : Int) < 1) = false := decide_eq_false (by omega)
        have d2 : decide ((s1.l.length : Int) < (at_ : Int)) = false := decide_eq_false (by omega)
        have d3 : decide ((en : Int) < (at_ : Int)) = false := decide_eq_false (by omega)
        have d4 : decide ((s1.l.length : Int) < (en : Int)) = false := decide_eq_false (by omega)
        have d5 : decide ((20 : Int) < (T.l.length : Int)) = false := decide_eq_false (by omega)
        have d6 : decide ((20 : Int) < (F.l.length : Int)) = false := decide_eq_false (by omega)
        have d7 : decide ((64 : Int) < (K.l.length : Int)) = false := decide_eq_false (by omega)
        have d8 : decide ((0 : Int) < 0) = false := rfl
        have d9 : decide (2#8 < sp) = false := decide_eq_false (by rw [BitVec.lt_def]; show ¬ 2 < sp.toNat; omega)
        have d10 : (!(decide (sp = 2#8) == decide (L s1.l 0 &&& 128#8 = 0#8))) = false := by rw [decide_eq_decide.2 a10, beq_self_eq_true]; rfl
        have hcp := o1.cap
        have hft := o1.fit
        (repeat first | refine And.intro (by omega) ?_ | refine And.intro (by decide) ?_ | refine And.intro rfl ?_ | (with_reducible refine frc_winA 0 rfl hp ?_) | refine And.intro (fun _ => ?_) (fun h => Bool.noConfusion h) | refine And.intro (fun h => Bool.noConfusion h) (fun _ => ?_))
        refine ⟨none, [], [(0, true), (1, true), (2, true), (3, true), (4, true), (5, true), (6, true), (7, true), (8, true), (9, true), (10, true), (11, true), (12, true), (13, true), (14, true), (15, true), (16, true), (17, true), (18, true), (19, true), (20, true), (21, true), (22, true), (23, true), (24, true), (25, true), (26, true), (27, true), (28, true), (29, true), (30, true), (31, true), (32, true), (33, true), (34, true), (35, true), (36, true), (37, true), (38, true), (39, true), (40, true), (41, true), (42, true), (43, true), (44, true), (45, true), (46, true), (47, true), (48, true), (49, true), (50, true), (51, true), (52, true), (53, true), (54, true), (55, true), (56, true), (57, true), (58, true), (59, true), (60, true), (61, true), (62, true), (63, true), (64, true), (65, true), (66, true), (67, true), (68, true), (69, true)], [], by kernel_rfl, ?_⟩
        (repeat first | refine And.intro (by omega) ?_ | refine And.intro (by decide) ?_ | refine And.intro rfl ?_ | (with_reducible refine frc_winA 0 rfl hp ?_) | refine And.intro (fun _ => ?_) (fun h => Bool.noConfusion h) | refine And.intro (fun h => Bool.noConfusion h) (fun _ => ?_) | refine And.intro (fun _ => ?_) (fun h => absurd h (by rw [d1]; decide)) | refine And.intro (fun h => absurd h (by rw [d1]; decide)) (fun _ => ?_) | refine And.intro (fun _ => ?_) (fun h => absurd h (by rw [d2]; decide)) | refine And.intro (fun h => absurd h (by rw [d2]; decide)) (fun _ => ?_) | refine And.intro (fun _ => ?_) (fun h => absurd h (by rw [d3]; decide)) | refine And.intro (fun h => absurd h (by rw [d3]; decide)) (fun _ => ?_) | refine And.intro (fun _ => ?_) (fun h => absurd h (by rw [d4]; decide)) | refine And.intro (fun h => absurd h (by rw [d4]; decide)) (fun _ => ?_) | refine And.intro (fun _ => ?_) (fun h => absurd h (by rw [d5]; decide)) | refine And.intro (fun h => absurd h (by rw [d5]; decide)) (fun _ => ?_) | refine And.intro (fun _ => ?_) (fun h => absurd h (by rw [d6]; decide)) | refine And.intro (fun h => absurd h (by rw [d6]; decide)) (fun _ => ?_) | refine And.intro (fun _ => ?_) (fun h => absurd h (by rw [d7]; decide)) | refine And.intro (fun h => absurd h (by rw [d7]; decide)) (fun _ => ?_) | refine And.intro (fun _ => ?_) (fun h => absurd h (by rw [d8]; decide)) | refine And.intro (fun h => absurd h (by rw [d8]; decide)) (fun _ => ?_) | refine And.intro (fun _ => ?_) (fun h => absurd h (by rw [d9]; decide)) | refine And.intro (fun h => absurd h (by rw [d9]; decide)) (fun _ => ?_) | refine And.intro (fun _ => ?_) (fun h => absurd h (by rw [d10]; decide)) | refine And.intro (fun h => absurd h (by rw [d10]; decide)) (fun _ => ?_))
        refine ⟨none, [14], [(0, true), (1, true), (2, true), (3, true), (4, true), (5, true), (6, true), (7, true), (8, true), (9, true), (10, false), (11, true), (12, true), (13, true), (14, false)], [15, 16], by kernel_rfl, ?_⟩
        (repeat first | refine And.intro (by omega) ?_ | refine And.intro (by decide) ?_ | refine And.intro rfl ?_ | (with_reducible refine frc_winA 0 rfl hp ?_) | refine And.intro (fun _ => ?_) (fun h => Bool.noConfusion h) | refine And.intro (fun h => Bool.noConfusion h) (fun _ => ?_))
        obtain ⟨oo, hoo⟩ : ∃ oo, (if s1.c = at_ then s1.o else s1.o + at_) = oo := ⟨_, rfl⟩
        have hoe : oo = s1.o + at_ ∨ (oo = s1.o ∧ s1.c = at_) := by
          by_cases hc : s1.c = at_
          · rw [if_pos hc] at hoo; right; exact ⟨hoo.symm, hc⟩
          · rw [if_neg hc] at hoo; left; exact hoo.symm
        have lB : ((s1.l.drop at_).take (en - at_)).length = en - at_ := by rw [List.length_take, List.length_drop]; omega
        refine call_same (fn_numbered sp (L s1.l 0) T F K ⟨s1.z, s1.N, oo, s1.c - at_, (s1.l.drop at_).take (en - at_)⟩ at_ en hT hF hK ⟨(by show oo + ((s1.l.drop at_).take (en - at_)).length ≤ s1.N; rw [lB]; omega), (by show ((s1.l.drop at_).take (en - at_)).length ≤ s1.c - at_; rw [lB]; omega), (fun h => by rw [hz] at h; cases h), (by show ((s1.l.drop at_).take (en - at_)).length ≤ 1000000; rw [lB]; omega)⟩) [8, 9, 10, 1] rfl ?_ ?_ (fun _ _ => trivial) ?_
        · (repeat first | exact trivial | refine ⟨rfl, ?_⟩ | refine ⟨fun _ _ => ⟨rfl, trivial⟩, ?_⟩ | refine ⟨fun _ _ => trivial, ?_⟩ | refine ⟨by omega, ?_⟩ | refine ⟨fun _ _ => eqC_winS, ?_⟩ | refine ⟨fun _ _ => eqC_winM, ?_⟩ | refine ⟨fun _ _ => eqC_winB, ?_⟩ | refine ⟨fun _ _ => eqC_selfB, ?_⟩ | refine ⟨fun _ _ => eqC_mpB, ?_⟩)
          exact ⟨by show (if s1.c = at_ then s1.o else s1.o + at_ * 1) = oo; rw [Nat.mul_one]; exact hoo, lB.symm, rfl, trivial⟩
        · refine eqC_btsM (eqC_btsM (eqC_btsM ?_))
          rw [svB_row (s := ⟨s1.z, s1.N, oo, s1.c - at_, (s1.l.drop at_).take (en - at_)⟩) hz]
          refine ⟨rfl, fun j hj => eqC_win (fun q hq => ?_) j, trivial⟩
          have hq : q < en - at_ := by rw [← lB]; exact hq
          have := winF_at s1.o s1.l.length (L s1.l) (i := at_ + q) (by omega)
          rw [show s1.o + (at_ + q) = oo + q by omega] at this
          show winF s1.o s1.l.length (L s1.l) (oo + q) = _
          rw [this, L_sub _ _ _ _ hq]
        rintro x hs ⟨r1, r2, r3⟩
        obtain ⟨fb, hfb⟩ : ∃ fb, L s1.l 0 = fb := ⟨_, rfl⟩
        have hm2 : manyB fb = (fb &&& 3#8).toNat + 1 := rfl
        have h256 := (fb &&& 3#8).isLt
        by_cases h2 : sp = 2#8
        · have e4 : decide (sp = 2#8) = true := decide_eq_true h2
          by_cases hlt : en - at_ < manyB (L s1.l 0)
          · obtain ⟨rfl, rfl⟩ := r1 (by show ((s1.l.drop at_).take (en - at_)).length < _; rw [lB]; exact hlt)
            clear r1 r2 r3
            have e5 : decide ((en : Int) - (at_ : Int) < (((L s1.l 0 &&& 3#8).toNat : Nat) : Int) + 1) = true := decide_eq_true (by rw [hfb] at hlt ⊢; omega)
            (repeat first | refine And.intro (by omega) ?_ | refine And.intro (by decide) ?_ | refine And.intro rfl ?_ | (with_reducible refine frc_winA 0 rfl hp ?_) | refine And.intro (fun _ => ?_) (fun h => Bool.noConfusion h) | refine And.intro (fun h => Bool.noConfusion h) (fun _ => ?_) | refine And.intro (fun _ => ?_) (fun h => absurd h (by rw [e4]; decide)) | refine And.intro (fun h => absurd h (by rw [e4]; decide)) (fun _ => ?_) | refine And.intro (fun _ => ?_) (fun h => absurd h (by rw [e5]; decide)) | refine And.intro (fun h => absurd h (by rw [e5]; decide)) (fun _ => ?_))
            refine ⟨2, [0, 1, 2, 3, 4, 5, 6, 7], ⟨⟨rfl, rfl, rfl⟩, ?_⟩, by omega, by dsimp only; omega⟩
            (repeat first | exact trivial | refine ⟨rfl, ?_⟩ | refine ⟨fun _ _ => ⟨rfl, trivial⟩, ?_⟩ | refine ⟨fun _ _ => trivial, ?_⟩ | refine ⟨by omega, ?_⟩ | refine ⟨fun _ _ => eqC_winS, ?_⟩ | refine ⟨fun _ _ => eqC_winM, ?_⟩ | refine ⟨fun _ _ => eqC_winB, ?_⟩ | refine ⟨fun _ _ => eqC_selfB, ?_⟩ | refine ⟨fun _ _ => eqC_mpB, ?_⟩)
            refine eqC_bts ?_
            (repeat first | exact trivial | refine ⟨rfl, ?_⟩ | refine ⟨fun _ _ => ⟨rfl, trivial⟩, ?_⟩ | refine ⟨fun _ _ => trivial, ?_⟩ | refine ⟨by omega, ?_⟩ | refine ⟨fun _ _ => eqC_winS, ?_⟩ | refine ⟨fun _ _ => eqC_winM, ?_⟩ | refine ⟨fun _ _ => eqC_winB, ?_⟩ | refine ⟨fun _ _ => eqC_selfB, ?_⟩ | refine ⟨fun _ _ => eqC_mpB, ?_⟩)
            refine ⟨fun j hj => ?_, ?_⟩
            · rcases lt2' hj with rfl | rfl <;> (repeat first | exact trivial | refine ⟨rfl, ?_⟩ | refine ⟨fun _ _ => ⟨rfl, trivial⟩, ?_⟩ | refine ⟨fun _ _ => trivial, ?_⟩ | refine ⟨by omega, ?_⟩ | refine ⟨fun _ _ => eqC_winS, ?_⟩ | refine ⟨fun _ _ => eqC_winM, ?_⟩ | refine ⟨fun _ _ => eqC_winB, ?_⟩ | refine ⟨fun _ _ => eqC_selfB, ?_⟩ | refine ⟨fun _ _ => eqC_mpB, ?_⟩)
            exact eqSegs_nil (eqSegs_nil (eqSegs_nil (eqSegs_nil (eqSegs_nil trivial))))
          have e5 : decide ((en : Int) - (at_ : Int) < (((L s1.l 0 &&& 3#8).toNat : Nat) : Int) + 1) = false := decide_eq_false (by rw [hfb] at hlt ⊢; omega)
          have hge : manyB (L s1.l 0) ≤ ((s1.l.drop at_).take (en - at_)).length := by rw [lB]; omega
          by_cases hb : noneB sp (L s1.l 0) = 0#8
          rotate_left
          · obtain ⟨rfl, rfl⟩ := r2 hge hb
            clear r1 r2 r3
            have e6 : decide (L s1.l 0 &&& 24#8 ≠ 0#8) = true := decide_eq_true (by unfold noneB at hb; rw [if_pos h2] at hb; exact hb)
            (repeat first | refine And.intro (by omega) ?_ | refine And.intro (by decide) ?_ | refine And.intro rfl ?_ | (with_reducible refine frc_winA 0 rfl hp ?_) | refine And.intro (fun _ => ?_) (fun h => Bool.noConfusion h) | refine And.intro (fun h => Bool.noConfusion h) (fun _ => ?_) | refine And.intro (fun _ => ?_) (fun h => absurd h (by rw [e4]; decide)) | refine And.intro (fun h => absurd h (by rw [e4]; decide)) (fun _ => ?_) | refine And.intro (fun _ => ?_) (fun h => absurd h (by rw [e5]; decide)) | refine And.intro (fun h => absurd h (by rw [e5]; decide)) (fun _ => ?_) | refine And.intro (fun _ => ?_) (fun h => absurd h (by rw [e6]; decide)) | refine And.intro (fun h => absurd h (by rw [e6]; decide)) (fun _ => ?_))
            refine ⟨2, [0, 1, 2, 3, 4, 5, 6, 7], ⟨⟨rfl, rfl, rfl⟩, ?_⟩, by omega, by dsimp only; omega⟩
            (repeat first | exact trivial | refine ⟨rfl, ?_⟩ | refine ⟨fun _ _ => ⟨rfl, trivial⟩, ?_⟩ | refine ⟨fun _ _ => trivial, ?_⟩ | refine ⟨by omega, ?_⟩ | refine ⟨fun _ _ => eqC_winS, ?_⟩ | refine ⟨fun _ _ => eqC_winM, ?_⟩ | refine ⟨fun _ _ => eqC_winB, ?_⟩ | refine ⟨fun _ _ => eqC_selfB, ?_⟩ | refine ⟨fun _ _ => eqC_mpB, ?_⟩)
            refine eqC_bts ?_
            (repeat first | exact trivial | refine ⟨rfl, ?_⟩ | refine ⟨fun _ _ => ⟨rfl, trivial⟩, ?_⟩ | refine ⟨fun _ _ => trivial, ?_⟩ | refine ⟨by omega, ?_⟩ | refine ⟨fun _ _ => eqC_winS, ?_⟩ | refine ⟨fun _ _ => eqC_winM, ?_⟩ | refine ⟨fun _ _ => eqC_winB, ?_⟩ | refine ⟨fun _ _ => eqC_selfB, ?_⟩ | refine ⟨fun _ _ => eqC_mpB, ?_⟩)
            refine ⟨fun j hj => ?_, ?_⟩
            · rcases lt2' hj with rfl | rfl <;> (repeat first | exact trivial | refine ⟨rfl, ?_⟩ | refine ⟨fun _ _ => ⟨rfl, trivial⟩, ?_⟩ | refine ⟨fun _ _ => trivial, ?_⟩ | refine ⟨by omega, ?_⟩ | refine ⟨fun _ _ => eqC_winS, ?_⟩ | refine ⟨fun _ _ => eqC_winM, ?_⟩ | refine ⟨fun _ _ => eqC_winB, ?_⟩ | refine ⟨fun _ _ => eqC_selfB, ?_⟩ | refine ⟨fun _ _ => eqC_mpB, ?_⟩)
            exact eqSegs_nil (eqSegs_nil (eqSegs_nil (eqSegs_nil (eqSegs_nil trivial))))
          obtain ⟨g, og, gs, gt, gf, gk, gu, gn, rfl, rfl⟩ := r3 hge hb
          clear r1 r2 r3
          have e6 : decide (L s1.l 0 &&& 24#8 ≠ 0#8) = false := decide_eq_false (fun q => q (by unfold noneB at hb; rw [if_pos h2] at hb; exact hb))
          (repeat first | refine And.intro (by omega) ?_ | refine And.intro (by decide) ?_ | refine And.intro rfl ?_ | (with_reducible refine frc_winA 0 rfl hp ?_) | refine And.intro (fun _ => ?_) (fun h => Bool.noConfusion h) | refine And.intro (fun h => Bool.noConfusion h) (fun _ => ?_) | refine And.intro (fun _ => ?_) (fun h => absurd h (by rw [e4]; decide)) | refine And.intro (fun h => absurd h (by rw [e4]; decide)) (fun _ => ?_) | refine And.intro (fun _ => ?_) (fun h => absurd h (by rw [e5]; decide)) | refine And.intro (fun h => absurd h (by rw [e5]; decide)) (fun _ => ?_) | refine And.intro (fun _ => ?_) (fun h => absurd h (by rw [e6]; decide)) | refine And.intro (fun h => absurd h (by rw [e6]; decide)) (fun _ => ?_))
          have gn' : g.n.l = (s1.l.drop at_).take (manyB (L s1.l 0)) := by
            rw [gn]
            show ((s1.l.drop at_).take (en - at_)).take (manyB (L s1.l 0)) = _
            rw [List.take_take, Nat.min_eq_left (by omega)]
          have lM : ((s1.l.drop at_).take (manyB (L s1.l 0))).length = manyB (L s1.l 0) := by rw [List.length_take, List.length_drop]; omega
          have hck : checkM g = 0 := numbered_ok hpo gs gt gf gk gu (by rw [gn', lM])
          rw [hfb] at gn' lM hlt hge
          refine ⟨none, [], [(0, true), (1, true), (2, true), (3, true), (4, true), (5, true), (6, true), (7, true), (8, true), (9, true), (10, true), (11, true), (12, true), (13, true), (14, true), (15, true), (16, true), (17, true), (18, true), (19, false), (20, true), (21, true)], [], by kernel_rfl, ?_⟩
          (repeat first | refine And.intro (by omega) ?_ | refine And.intro (by decide) ?_ | refine And.intro rfl ?_ | (with_reducible refine frc_winA 0 rfl hp ?_) | refine And.intro (fun _ => ?_) (fun h => Bool.noConfusion h) | refine And.intro (fun h => Bool.noConfusion h) (fun _ => ?_))
          refine sn_btsM rfl og.n.fit (fun h => by rw [og.n.nil h]; rfl) (fun g1 hg1 => ?_)
          refine ⟨U8 g.n.l, str_of rfl hg1, ?_⟩
          rw [hfb]
          (repeat first | refine And.intro (by omega) ?_ | refine And.intro (by decide) ?_ | refine And.intro rfl ?_ | (with_reducible refine frc_winA 0 rfl hp ?_) | refine And.intro (fun _ => ?_) (fun h => Bool.noConfusion h) | refine And.intro (fun h => Bool.noConfusion h) (fun _ => ?_))
          refine And.intro (show (0 : Int) ≤ (at_ : Int) ∧ (at_ : Int) ≤ (at_ : Int) + ((((fb &&& 3#8).toNat : Nat) : Int) + 1) ∧ (at_ : Int) + ((((fb &&& 3#8).toNat : Nat) : Int) + 1) ≤ (s1.c : Int) by omega) ?_
          refine frcN_of (m := at_) rfl ?_
          refine frcN_of (m := at_ + manyB fb) (by show ((at_ : Int) + ((((fb &&& 3#8).toNat : Nat) : Int) + 1)).toNat = _; omega) ?_
          refine frcN_of (m := oo) (by rw [← hoo]; show (if s1.c = at_ then s1.o else s1.o + at_ * 1) = _; rw [Nat.mul_one]) ?_
          refine frcN_of (m := manyB fb) (by omega) ?_
          refine frcN_of (m := s1.c - at_) rfl ?_
          (repeat first | refine And.intro (by omega) ?_ | refine And.intro (by decide) ?_ | refine And.intro rfl ?_ | (with_reducible refine frc_winA 0 rfl hp ?_) | refine And.intro (fun _ => ?_) (fun h => Bool.noConfusion h) | refine And.intro (fun h => Bool.noConfusion h) (fun _ => ?_))
          refine sn_sub (N := s1.N) (f := winF s1.o s1.l.length (L s1.l)) (l := (s1.l.drop at_).take (manyB fb)) rfl (by omega) (fun i hi => ?_) (fun h => by rw [hz] at h; cases h) (fun g2 hg2 => ?_)
          · have hi : i < manyB fb := hi
            rw [lB] at hge
            have := winF_at s1.o s1.l.length (L s1.l) (i := at_ + i) (by omega)
            rw [show s1.o + (at_ + i) = oo + i by omega] at this
            rw [this, L_sub _ _ _ _ hi]
          refine ⟨U8 ((s1.l.drop at_).take (manyB fb)), str_of lM hg2, ?_⟩
          have e7 : (!decide (U8 g.n.l = U8 ((s1.l.drop at_).take (manyB fb)))) = false := by rw [gn', decide_eq_true rfl]; rfl
          (repeat first | refine And.intro (by omega) ?_ | refine And.intro (by decide) ?_ | refine And.intro rfl ?_ | (with_reducible refine frc_winA 0 rfl hp ?_) | refine And.intro (fun _ => ?_) (fun h => Bool.noConfusion h) | refine And.intro (fun h => Bool.noConfusion h) (fun _ => ?_) | refine And.intro (fun _ => ?_) (fun h => absurd h (by rw [e7]; decide)) | refine And.intro (fun h => absurd h (by rw [e7]; decide)) (fun _ => ?_))
          refine call_same (fn_hcheck g) [12, 13, 14, 15] rfl (by (repeat first | exact trivial | refine ⟨rfl, ?_⟩ | refine ⟨fun _ _ => ⟨rfl, trivial⟩, ?_⟩ | refine ⟨fun _ _ => trivial, ?_⟩ | refine ⟨by omega, ?_⟩ | refine ⟨fun _ _ => eqC_winS, ?_⟩ | refine ⟨fun _ _ => eqC_winM, ?_⟩ | refine ⟨fun _ _ => eqC_winB, ?_⟩ | refine ⟨fun _ _ => eqC_selfB, ?_⟩ | refine ⟨fun _ _ => eqC_mpB, ?_⟩)) ?_ (fun _ _ => trivial) ?_
          · refine eqC_btsM (eqC_btsM (eqC_btsM (eqC_btsM ?_)))
            (repeat first | exact trivial | refine ⟨rfl, ?_⟩ | refine ⟨fun _ _ => ⟨rfl, trivial⟩, ?_⟩ | refine ⟨fun _ _ => trivial, ?_⟩ | refine ⟨by omega, ?_⟩ | refine ⟨fun _ _ => eqC_winS, ?_⟩ | refine ⟨fun _ _ => eqC_winM, ?_⟩ | refine ⟨fun _ _ => eqC_winB, ?_⟩ | refine ⟨fun _ _ => eqC_selfB, ?_⟩ | refine ⟨fun _ _ => eqC_mpB, ?_⟩)
          rintro x hs ⟨rfl, rfl⟩
          rw [hck]
          (repeat first | refine And.intro (by omega) ?_ | refine And.intro (by decide) ?_ | refine And.intro rfl ?_ | (with_reducible refine frc_winA 0 rfl hp ?_) | refine And.intro (fun _ => ?_) (fun h => Bool.noConfusion h) | refine And.intro (fun h => Bool.noConfusion h) (fun _ => ?_) | refine And.intro (fun _ => ?_) (fun h => absurd h (by rw [e7]; decide)) | refine And.intro (fun h => absurd h (by rw [e7]; decide)) (fun _ => ?_))
          refine ⟨2, [0, 1, 2, 3, 4, 5, 6, 7], ⟨⟨rfl, rfl, rfl⟩, ?_⟩, by omega, by dsimp only; omega⟩
          (repeat first | exact trivial | refine ⟨rfl, ?_⟩ | refine ⟨fun _ _ => ⟨rfl, trivial⟩, ?_⟩ | refine ⟨fun _ _ => trivial, ?_⟩ | refine ⟨by omega, ?_⟩ | refine ⟨fun _ _ => eqC_winS, ?_⟩ | refine ⟨fun _ _ => eqC_winM, ?_⟩ | refine ⟨fun _ _ => eqC_winB, ?_⟩ | refine ⟨fun _ _ => eqC_selfB, ?_⟩ | refine ⟨fun _ _ => eqC_mpB, ?_⟩)
          refine eqC_bts ?_
          (repeat first | exact trivial | refine ⟨rfl, ?_⟩ | refine ⟨fun _ _ => ⟨rfl, trivial⟩, ?_⟩ | refine ⟨fun _ _ => trivial, ?_⟩ | refine ⟨by omega, ?_⟩ | refine ⟨fun _ _ => eqC_winS, ?_⟩ | refine ⟨fun _ _ => eqC_winM, ?_⟩ | refine ⟨fun _ _ => eqC_winB, ?_⟩ | refine ⟨fun _ _ => eqC_selfB, ?_⟩ | refine ⟨fun _ _ => eqC_mpB, ?_⟩)
          refine ⟨fun j hj => ?_, ?_⟩
          · rcases lt2' hj with rfl | rfl <;> (repeat first | exact trivial | refine ⟨rfl, ?_⟩ | refine ⟨fun _ _ => ⟨rfl, trivial⟩, ?_⟩ | refine ⟨fun _ _ => trivial, ?_⟩ | refine ⟨by omega, ?_⟩ | refine ⟨fun _ _ => eqC_winS, ?_⟩ | refine ⟨fun _ _ => eqC_winM, ?_⟩ | refine ⟨fun _ _ => eqC_winB, ?_⟩ | refine ⟨fun _ _ => eqC_selfB, ?_⟩ | refine ⟨fun _ _ => eqC_mpB, ?_⟩)
          exact eqSegs_nil (eqSegs_nil (eqSegs_nil (eqSegs_nil (eqSegs_nil trivial))))
        · have e4 : decide (sp = 2#8) = false := decide_eq_false h2
          by_cases hlt : en - at_ < manyB (L s1.l 0)
          · obtain ⟨rfl, rfl⟩ := r1 (by show ((s1.l.drop at_).take (en - at_)).length < _; rw [lB]; exact hlt)
            clear r1 r2 r3
            have e5 : decide ((en : Int) - (at_ : Int) < (((L s1.l 0 &&& 3#8).toNat : Nat) : Int) + 1) = true := decide_eq_true (by rw [hfb] at hlt ⊢; omega)
            (repeat first | refine And.intro (by omega) ?_ | refine And.intro (by decide) ?_ | refine And.intro rfl ?_ | (with_reducible refine frc_winA 0 rfl hp ?_) | refine And.intro (fun _ => ?_) (fun h => Bool.noConfusion h) | refine And.intro (fun h => Bool.noConfusion h) (fun _ => ?_) | refine And.intro (fun _ => ?_) (fun h => absurd h (by rw [e4]; decide)) | refine And.intro (fun h => absurd h (by rw [e4]; decide)) (fun _ => ?_) | refine And.intro (fun _ => ?_) (fun h => absurd h (by rw [e5]; decide)) | refine And.intro (fun h => absurd h (by rw [e5]; decide)) (fun _ => ?_))
            refine ⟨2, [0, 1, 2, 3, 4, 5, 6, 7], ⟨⟨rfl, rfl, rfl⟩, ?_⟩, by omega, by dsimp only; omega⟩
            (repeat first | exact trivial | refine ⟨rfl, ?_⟩ | refine ⟨fun _ _ => ⟨rfl, trivial⟩, ?_⟩ | refine ⟨fun _ _ => trivial, ?_⟩ | refine ⟨by omega, ?_⟩ | refine ⟨fun _ _ => eqC_winS, ?_⟩ | refine ⟨fun _ _ => eqC_winM, ?_⟩ | refine ⟨fun _ _ => eqC_winB, ?_⟩ | refine ⟨fun _ _ => eqC_selfB, ?_⟩ | refine ⟨fun _ _ => eqC_mpB, ?_⟩)
            refine eqC_bts ?_
            (repeat first | exact trivial | refine ⟨rfl, ?_⟩ | refine ⟨fun _ _ => ⟨rfl, trivial⟩, ?_⟩ | refine ⟨fun _ _ => trivial, ?_⟩ | refine ⟨by omega, ?_⟩ | refine ⟨fun _ _ => eqC_winS, ?_⟩ | refine ⟨fun _ _ => eqC_winM, ?_⟩ | refine ⟨fun _ _ => eqC_winB, ?_⟩ | refine ⟨fun _ _ => eqC_selfB, ?_⟩ | refine ⟨fun _ _ => eqC_mpB, ?_⟩)
            refine ⟨fun j hj => ?_, ?_⟩
            · rcases lt2' hj with rfl | rfl <;> (repeat first | exact trivial | refine ⟨rfl, ?_⟩ | refine ⟨fun _ _ => ⟨rfl, trivial⟩, ?_⟩ | refine ⟨fun _ _ => trivial, ?_⟩ | refine ⟨by omega, ?_⟩ | refine ⟨fun _ _ => eqC_winS, ?_⟩ | refine ⟨fun _ _ => eqC_winM, ?_⟩ | refine ⟨fun _ _ => eqC_winB, ?_⟩ | refine ⟨fun _ _ => eqC_selfB, ?_⟩ | refine ⟨fun _ _ => eqC_mpB, ?_⟩)
            exact eqSegs_nil (eqSegs_nil (eqSegs_nil (eqSegs_nil (eqSegs_nil trivial))))
          have e5 : decide ((en : Int) - (at_ : Int) < (((L s1.l 0 &&& 3#8).toNat : Nat) : Int) + 1) = false := decide_eq_false (by rw [hfb] at hlt ⊢; omega)
          have hge : manyB (L s1.l 0) ≤ ((s1.l.drop at_).take (en - at_)).length := by rw [lB]; omega
          by_cases hb : noneB sp (L s1.l 0) = 0#8
          rotate_left
          · obtain ⟨rfl, rfl⟩ := r2 hge hb
            clear r1 r2 r3
            have e6 : decide (L s1.l 0 &&& 12#8 ≠ 0#8) = true := decide_eq_true (by unfold noneB at hb; rw [if_neg h2] at hb; exact hb)
            (repeat first | refine And.intro (by omega) ?_ | refine And.intro (by decide) ?_ | refine And.intro rfl ?_ | (with_reducible refine frc_winA 0 rfl hp ?_) | refine And.intro (fun _ => ?_) (fun h => Bool.noConfusion h) | refine And.intro (fun h => Bool.noConfusion h) (fun _ => ?_) | refine And.intro (fun _ => ?_) (fun h => absurd h (by rw [e4]; decide)) | refine And.intro (fun h => absurd h (by rw [e4]; decide)) (fun _ => ?_) | refine And.intro (fun _ => ?_) (fun h => absurd h (by rw [e5]; decide)) | refine And.intro (fun h => absurd h (by rw [e5]; decide)) (fun _ => ?_) | refine And.intro (fun _ => ?_) (fun h => absurd h (by rw [e6]; decide)) | refine And.intro (fun h => absurd h (by rw [e6]; decide)) (fun _ => ?_))
            refine ⟨2, [0, 1, 2, 3, 4, 5, 6, 7], ⟨⟨rfl, rfl, rfl⟩, ?_⟩, by omega, by dsimp only; omega⟩
            (repeat first | exact trivial | refine ⟨rfl, ?_⟩ | refine ⟨fun _ _ => ⟨rfl, trivial⟩, ?_⟩ | refine ⟨fun _ _ => trivial, ?_⟩ | refine ⟨by omega, ?_⟩ | refine ⟨fun _ _ => eqC_winS, ?_⟩ | refine ⟨fun _ _ => eqC_winM, ?_⟩ | refine ⟨fun _ _ => eqC_winB, ?_⟩ | refine ⟨fun _ _ => eqC_selfB, ?_⟩ | refine ⟨fun _ _ => eqC_mpB, ?_⟩)
            refine eqC_bts ?_
            (repeat first | exact trivial | refine ⟨rfl, ?_⟩ | refine ⟨fun _ _ => ⟨rfl, trivial⟩, ?_⟩ | refine ⟨fun _ _ => trivial, ?_⟩ | refine ⟨by omega, ?_⟩ | refine ⟨fun _ _ => eqC_winS, ?_⟩ | refine ⟨fun _ _ => eqC_winM, ?_⟩ | refine ⟨fun _ _ => eqC_winB, ?_⟩ | refine ⟨fun _ _ => eqC_selfB, ?_⟩ | refine ⟨fun _ _ => eqC_mpB, ?_⟩)
            refine ⟨fun j hj => ?_, ?_⟩
            · rcases lt2' hj with rfl | rfl <;> (repeat first | exact trivial | refine ⟨rfl, ?_⟩ | refine ⟨fun _ _ => ⟨rfl, trivial⟩, ?_⟩ | refine ⟨fun _ _ => trivial, ?_⟩ | refine ⟨by omega, ?_⟩ | refine ⟨fun _ _ => eqC_winS, ?_⟩ | refine ⟨fun _ _ => eqC_winM, ?_⟩ | refine ⟨fun _ _ => eqC_winB, ?_⟩ | refine ⟨fun _ _ => eqC_selfB, ?_⟩ | refine ⟨fun _ _ => eqC_mpB, ?_⟩)
            exact eqSegs_nil (eqSegs_nil (eqSegs_nil (eqSegs_nil (eqSegs_nil trivial))))
          obtain ⟨g, og, gs, gt, gf, gk, gu, gn, rfl, rfl⟩ := r3 hge hb
          clear r1 r2 r3
          have e6 : decide (L s1.l 0 &&& 12#8 ≠ 0#8) = false := decide_eq_false (fun q => q (by unfold noneB at hb; rw [if_neg h2] at hb; exact hb))
          (repeat first | refine And.intro (by omega) ?_ | refine And.intro (by decide) ?_ | refine And.intro rfl ?_ | (with_reducible refine frc_winA 0 rfl hp ?_) | refine And.intro (fun _ => ?_) (fun h => Bool.noConfusion h) | refine And.intro (fun h => Bool.noConfusion h) (fun _ => ?_) | refine And.intro (fun _ => ?_) (fun h => absurd h (by rw [e4]; decide)) | refine And.intro (fun h => absurd h (by rw [e4]; decide)) (fun _ => ?_) | refine And.intro (fun _ => ?_) (fun h => absurd h (by rw [e5]; decide)) | refine And.intro (fun h => absurd h (by rw [e5]; decide)) (fun _ => ?_) | refine And.intro (fun _ => ?_) (fun h => absurd h (by rw [e6]; decide)) | refine And.intro (fun h => absurd h (by rw [e6]; decide)) (fun _ => ?_))
          have gn' : g.n.l = (s1.l.drop at_).take (manyB (L s1.l 0)) := by
            rw [gn]
            show ((s1.l.drop at_).take (en - at_)).take (manyB (L s1.l 0)) = _
            rw [List.take_take, Nat.min_eq_left (by omega)]
          have lM : ((s1.l.drop at_).take (manyB (L s1.l 0))).length = manyB (L s1.l 0) := by rw [List.length_take, List.length_drop]; omega
          have hck : checkM g = 0 := numbered_ok hpo gs gt gf gk gu (by rw [gn', lM])
          rw [hfb] at gn' lM hlt hge
          refine ⟨none, [], [(0, true), (1, true), (2, true), (3, true), (4, true), (5, true), (6, true), (7, true), (8, true), (9, true), (10, true), (11, true), (12, true), (13, true), (14, true), (15, true), (16, true), (17, true), (18, true), (19, false), (20, true), (21, true)], [], by kernel_rfl, ?_⟩
          (repeat first | refine And.intro (by omega) ?_ | refine And.intro (by decide) ?_ | refine And.intro rfl ?_ | (with_reducible refine frc_winA 0 rfl hp ?_) | refine And.intro (fun _ => ?_) (fun h => Bool.noConfusion h) | refine And.intro (fun h => Bool.noConfusion h) (fun _ => ?_))
          refine sn_btsM rfl og.n.fit (fun h => by rw [og.n.nil h]; rfl) (fun g1 hg1 => ?_)
          refine ⟨U8 g.n.l, str_of rfl hg1, ?_⟩
          rw [hfb]
          (repeat first | refine And.intro (by omega) ?_ | refine And.intro (by decide) ?_ | refine And.intro rfl ?_ | (with_reducible refine frc_winA 0 rfl hp ?_) | refine And.intro (fun _ => ?_) (fun h => Bool.noConfusion h) | refine And.intro (fun h => Bool.noConfusion h) (fun _ => ?_))
          refine And.intro (show (0 : Int) ≤ (at_ : Int) ∧ (at_ : Int) ≤ (at_ : Int) + ((((fb &&& 3#8).toNat : Nat) : Int) + 1) ∧ (at_ : Int) + ((((fb &&& 3#8).toNat : Nat) : Int) + 1) ≤ (s1.c : Int) by omega) ?_
          refine frcN_of (m := at_) rfl ?_
          refine frcN_of (m := at_ + manyB fb) (by show ((at_ : Int) + ((((fb &&& 3#8).toNat : Nat) : Int) + 1)).toNat = _; omega) ?_
          refine frcN_of (m := oo) (by rw [← hoo]; show (if s1.c = at_ then s1.o else s1.o + at_ * 1) = _; rw [Nat.mul_one]) ?_
          refine frcN_of (m := manyB fb) (by omega) ?_
          refine frcN_of (m := s1.c - at_) rfl ?_
          (repeat first | refine And.intro (by omega) ?_ | refine And.intro (by decide) ?_ | refine And.intro rfl ?_ | (with_reducible refine frc_winA 0 rfl hp ?_) | refine And.intro (fun _ => ?_) (fun h => Bool.noConfusion h) | refine And.intro (fun h => Bool.noConfusion h) (fun _ => ?_))
          refine sn_sub (N := s1.N) (f := winF s1.o s1.l.length (L s1.l)) (l := (s1.l.drop at_).take (manyB fb)) rfl (by omega) (fun i hi => ?_) (fun h => by rw [hz] at h; cases h) (fun g2 hg2 => ?_)
          · have hi : i < manyB fb := hi
            rw [lB] at hge
            have := winF_at s1.o s1.l.length (L s1.l) (i := at_ + i) (by omega)
            rw [show s1.o + (at_ + i) = oo + i by omega] at this
            rw [this, L_sub _ _ _ _ hi]
          refine ⟨U8 ((s1.l.drop at_).take (manyB fb)), str_of lM hg2, ?_⟩
          have e7 : (!decide (U8 g.n.l = U8 ((s1.l.drop at_).take (manyB fb)))) = false := by rw [gn', decide_eq_true rfl]; rfl
          (repeat first | refine And.intro (by omega) ?_ | refine And.intro (by decide) ?_ | refine And.intro rfl ?_ | (with_reducible refine frc_winA 0 rfl hp ?_) | refine And.intro (fun _ => ?_) (fun h => Bool.noConfusion h) | refine And.intro (fun h => Bool.noConfusion h) (fun _ => ?_) | refine And.intro (fun _ => ?_) (fun h => absurd h (by rw [e7]; decide)) | refine And.intro (fun h => absurd h (by rw [e7]; decide)) (fun _ => ?_))
          refine call_same (fn_hcheck g) [12, 13, 14, 15] rfl (by (repeat first | exact trivial | refine ⟨rfl, ?_⟩ | refine ⟨fun _ _ => ⟨rfl, trivial⟩, ?_⟩ | refine ⟨fun _ _ => trivial, ?_⟩ | refine ⟨by omega, ?_⟩ | refine ⟨fun _ _ => eqC_winS, ?_⟩ | refine ⟨fun _ _ => eqC_winM, ?_⟩ | refine ⟨fun _ _ => eqC_winB, ?_⟩ | refine ⟨fun _ _ => eqC_selfB, ?_⟩ | refine ⟨fun _ _ => eqC_mpB, ?_⟩)) ?_ (fun _ _ => trivial) ?_
          · refine eqC_btsM (eqC_btsM (eqC_btsM (eqC_btsM ?_)))
            (repeat first | exact trivial | refine ⟨rfl, ?_⟩ | refine ⟨fun _ _ => ⟨rfl, trivial⟩, ?_⟩ | refine ⟨fun _ _ => trivial, ?_⟩ | refine ⟨by omega, ?_⟩ | refine ⟨fun _ _ => eqC_winS, ?_⟩ | refine ⟨fun _ _ => eqC_winM, ?_⟩ | refine ⟨fun _ _ => eqC_winB, ?_⟩ | refine ⟨fun _ _ => eqC_selfB, ?_⟩ | refine ⟨fun _ _ => eqC_mpB, ?_⟩)
          rintro x hs ⟨rfl, rfl⟩
          rw [hck]
          (repeat first | refine And.intro (by omega) ?_ | refine And.intro (by decide) ?_ | refine And.intro rfl ?_ | (with_reducible refine frc_winA 0 rfl hp ?_) | refine And.intro (fun _ => ?_) (fun h => Bool.noConfusion h) | refine And.intro (fun h => Bool.noConfusion h) (fun _ => ?_) | refine And.intro (fun _ => ?_) (fun h => absurd h (by rw [e7]; decide)) | refine And.intro (fun h => absurd h (by rw [e7]; decide)) (fun _ => ?_))
          refine ⟨2, [0, 1, 2, 3, 4, 5, 6, 7], ⟨⟨rfl, rfl, rfl⟩, ?_⟩, by omega, by dsimp only; omega⟩
          (repeat first | exact trivial | refine ⟨rfl, ?_⟩ | refine ⟨fun _ _ => ⟨rfl, trivial⟩, ?_⟩ | refine ⟨fun _ _ => trivial, ?_⟩ | refine ⟨by omega, ?_⟩ | refine ⟨fun _ _ => eqC_winS, ?_⟩ | refine ⟨fun _ _ => eqC_winM, ?_⟩ | refine ⟨fun _ _ => eqC_winB, ?_⟩ | refine ⟨fun _ _ => eqC_selfB, ?_⟩ | refine ⟨fun _ _ => eqC_mpB, ?_⟩)
          refine eqC_bts ?_
          (repeat first | exact trivial | refine ⟨rfl, ?_⟩ | refine ⟨fun _ _ => ⟨rfl, trivial⟩, ?_⟩ | refine ⟨fun _ _ => trivial, ?_⟩ | refine ⟨by omega, ?_⟩ | refine ⟨fun _ _ => eqC_winS, ?_⟩ | refine ⟨fun _ _ => eqC_winM, ?_⟩ | refine ⟨fun _ _ => eqC_winB, ?_⟩ | refine ⟨fun _ _ => eqC_selfB, ?_⟩ | refine ⟨fun _ _ => eqC_mpB, ?_⟩)
          refine ⟨fun j hj => ?_, ?_⟩
          · rcases lt2' hj with rfl | rfl <;> (repeat first | exact trivial | refine ⟨rfl, ?_⟩ | refine ⟨fun _ _ => ⟨rfl, trivial⟩, ?_⟩ | refine ⟨fun _ _ => trivial, ?_⟩ | refine ⟨by omega, ?_⟩ | refine ⟨fun _ _ => eqC_winS, ?_⟩ | refine ⟨fun _ _ => eqC_winM, ?_⟩ | refine ⟨fun _ _ => eqC_winB, ?_⟩ | refine ⟨fun _ _ => eqC_selfB, ?_⟩ | refine ⟨fun _ _ => eqC_mpB, ?_⟩)
          exact eqSegs_nil (eqSegs_nil (eqSegs_nil (eqSegs_nil (eqSegs_nil trivial))))
  · obtain rfl : k = 2 := by have : ¬ (k : Int) < 2 := of_decide_eq_false hlt; have hk : k ≤ 2 := hk; omega
    (repeat first | refine And.intro (by omega) ?_ | refine And.intro (by decide) ?_ | refine And.intro rfl ?_ | refine And.intro (fun _ => ?_) (fun h => Bool.noConfusion h) | refine And.intro (fun h => Bool.noConfusion h) (fun _ => ?_))
    refine ⟨.a (.c (.bool true)), [[]], ⟨[0], ⟨rfl, rfl, rfl⟩, ?_⟩, rfl⟩
    (repeat first | exact trivial | refine ⟨rfl, ?_⟩ | refine ⟨fun _ _ => ⟨rfl, trivial⟩, ?_⟩ | refine ⟨fun _ _ => trivial, ?_⟩ | refine ⟨by omega, ?_⟩ | refine ⟨fun _ _ => eqC_winS, ?_⟩ | refine ⟨fun _ _ => eqC_winM, ?_⟩ | refine ⟨fun _ _ => eqC_winB, ?_⟩ | refine ⟨fun _ _ => eqC_selfB, ?_⟩ | refine ⟨fun _ _ => eqC_mpB, ?_⟩)
    exact eqSegs_nil trivial
end Sx
end Go.Proofs.Ytkjdkeolkigibaa
end
