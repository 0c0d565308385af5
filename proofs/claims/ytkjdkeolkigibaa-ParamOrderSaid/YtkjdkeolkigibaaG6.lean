/-
  Texts of this claim, part 6: PmC, VwA, VwB, VwC, PmD, PmE, PmF, PmL, PoA, PoB, PoC, VrA, PmG, PmH, Sxw, Sxv, Sxs, PmI, Sxz. No condition of its own.
-/
import Derived.OpenShut
import Derived.ChangeArms
import Derived.Test.YtkjdkeolkigibaaG5
section
/-
  What an endpoint says, taken out of bytes. No condition.
-/
namespace Go.Proofs.Ytkjdkeolkigibaa
set_option linter.unusedVariables false
namespace Vi
open Sha Sx
def isP (D : Said) (src : Bs) (p : Pm) : Prop := p.a0 = lookK 1#64 0#64 D ∧ p.a1 = lookK 4#64 0#64 D ∧ p.a2 = lookK 5#64 0#64 D ∧ p.a3 = lookK 6#64 0#64 D ∧ p.a4 = lookK 7#64 0#64 D ∧
  p.a5 = lookK 8#64 0#64 D ∧ p.a6 = lookK 9#64 0#64 D ∧ p.a7 = lookK 11#64 0#64 D ∧ p.a8 = lookK 14#64 0#64 D ∧ p.s.l = src
/-- Nothing is said. -/
abbrev pm0 : Pm := ⟨0#64, 0#64, 0#64, 0#64, 0#64, 0#64, 0#64, 0#64, 0#64, ⟨true, 0, 0, 0, []⟩⟩
def takeP (l : Bs) (e : Int) (p : Pm) : Prop := match allP l.length l.length l [] [] with
  | (f, D, src) => (f ≠ 0 → e = f ∧ p = pm0) ∧ (f = 0 → (hasK 15#64 D = false → e = 17 ∧ p = pm0) ∧
    (hasK 15#64 D = true → ∃ q, q.s.Ok ∧ isP (idsP D) src q ∧ (checkP q ≠ 0 → e = checkP q ∧ p = pm0) ∧ (checkP q = 0 → e = 0 ∧ p = q)))
theorem takeP_bad {l src : Bs} {D : Said} {e : Int} (h : allP l.length l.length l [] [] = (e, D, src)) (he : e ≠ 0) : takeP l e pm0 := by
  unfold takeP
  rw [h]
  exact ⟨fun _ => ⟨rfl, rfl⟩, fun h => absurd h he⟩
theorem nextM_len {l l' : Bs} {e e' : Int} {x : BitVec 64 × Nat × Bool} (h : nextM l e = (x, l', e')) : l'.length ≤ l.length ∧ (e' = 0 → l'.length < l.length) := by
  unfold nextM at h
  split at h
  · simp only [Prod.mk.injEq] at h
    obtain ⟨_, rfl, rfl⟩ := h
    exact ⟨Nat.le_refl _, fun h => absurd h (by assumption)⟩
  · split at h
    · simp only [Prod.mk.injEq] at h
      obtain ⟨_, rfl, rfl⟩ := h
      exact ⟨Nat.zero_le _, fun h => absurd h (by assumption)⟩
    · simp only [Prod.mk.injEq] at h
      obtain ⟨_, rfl, rfl⟩ := h
      have := takeM_le (l := l) (n := (takeM l).1) (k := (takeM l).2.1) (e := (takeM l).2.2) rfl
      have h2 := this.2 (by omega)
      simp only [List.length_drop]
      exact ⟨by omega, fun _ => by omega⟩
theorem longM_len {l l' v : Bs} {e e' : Int} {m : Nat} (h : longM l e m = (v, l', e')) : l'.length ≤ l.length ∧ (e ≠ 0 → e' ≠ 0) := by
  unfold longM countM at h
  rcases hn : nextM l e with ⟨⟨n, k, b⟩, l1, e1⟩
  have h1 := nextM_len hn
  have h2 : e ≠ 0 → e1 ≠ 0 := fun he => by
    unfold nextM at hn
    rw [if_pos he] at hn
    simp only [Prod.mk.injEq] at hn
    obtain ⟨_, _, rfl⟩ := hn
    exact he
  have hb : ∀ (l1 : Bs) (e1 : Int) (c : Int), bytesM l1 e1 c = (v, l', e') → l'.length ≤ l1.length ∧ (e1 ≠ 0 → e' ≠ 0) := by
    intro l1 e1 c hb
    unfold bytesM at hb
    split at hb
    · simp only [Prod.mk.injEq] at hb
      obtain ⟨_, rfl, rfl⟩ := hb
      exact ⟨Nat.le_refl _, fun h => h⟩
    · split at hb
      · simp only [Prod.mk.injEq] at hb
        obtain ⟨_, rfl, rfl⟩ := hb
        exact ⟨Nat.zero_le _, fun h => by decide⟩
      · simp only [Prod.mk.injEq] at hb
        obtain ⟨_, rfl, rfl⟩ := hb
        exact ⟨by simp, fun h => absurd h (by assumption)⟩
  rw [hn] at h
  simp only at h
  split at h
  · have := hb _ _ _ h
    dsimp only at this h1
    exact ⟨by omega, fun he => this.2 (h2 he)⟩
  · split at h
    · have := hb _ _ _ h
      simp only [List.length_nil] at this
      exact ⟨by omega, fun _ => this.2 (by decide)⟩
    · have := hb _ _ _ h
      dsimp only at this h1
      exact ⟨by omega, fun he => this.2 (h2 he)⟩
theorem one_shorter {l l1 l2 v : Bs} {x : BitVec 64 × Nat × Bool} {e1 e2 : Int} {m : Nat} (h1 : nextM l 0 = (x, l1, e1)) (h2 : longM l1 e1 m = (v, l2, e2)) (h : e2 = 0) : l2.length < l.length := by
  have a := nextM_len h1
  have b := longM_len h2
  have : e1 = 0 := Classical.byContradiction fun hc => b.2 hc h
  have := a.2 this
  omega
theorem takeP_none {l src : Bs} {D : Said} (h : allP l.length l.length l [] [] = (0, D, src)) (hk : hasK 15#64 D = false) : takeP l 17 pm0 := by
  unfold takeP
  rw [h]
  exact ⟨fun h => absurd rfl h, fun _ => ⟨fun _ => ⟨rfl, rfl⟩, fun h => by rw [hk] at h; exact Bool.noConfusion h⟩⟩
theorem takeP_ok {l src : Bs} {D : Said} {e : Int} {p q : Pm} (h : allP l.length l.length l [] [] = (0, D, src)) (hk : hasK 15#64 D = true) (hq : q.s.Ok) (hi : isP (idsP D) src q) (hc : (checkP q ≠ 0 ∧ e = checkP q ∧ p = pm0) ∨ (checkP q = 0 ∧ e = 0 ∧ p = q)) : takeP l e p := by
  unfold takeP
  rw [h]
  refine ⟨fun h => absurd rfl h, fun _ => ⟨fun h => by rw [hk] at h; exact Bool.noConfusion h, fun _ => ⟨q, hq, hi, fun h => ?_, fun h => ?_⟩⟩⟩
  · rcases hc with ⟨_, h2⟩ | ⟨h1, _⟩
    · exact h2
    · exact absurd h1 h
  · rcases hc with ⟨h1, _⟩ | ⟨_, h2⟩
    · exact absurd h h1
    · exact h2
section
variable {m k : Nat} {l l1 l2 v src : Bs} {D D2 : Said} {id : BitVec 64} {b : Bool} {e1 e2 g : Int}
theorem oneP_err (h1 : nextM l 0 = ((id, k, b), l1, e1)) (h2 : longM l1 e1 m = (v, l2, e2)) (h : e2 ≠ 0) : oneP m l D src = (e2, [], D, src) := by
  unfold oneP
  rw [h1]
  simp only [h2]
  rw [if_pos h]
theorem oneP_two (h1 : nextM l 0 = ((id, k, b), l1, e1)) (h2 : longM l1 e1 m = (v, l2, e2)) (h : e2 = 0) (hk : hasK id D = true) : oneP m l D src = (18, [], D, src) := by
  unfold oneP
  rw [h1]
  simp only [h2]
  rw [if_neg (by omega), if_pos hk]
theorem oneP_own (h1 : nextM l 0 = ((id, k, b), l1, e1)) (h2 : longM l1 e1 m = (v, l2, e2)) (h : e2 = 0) (hk : hasK id D = false) (ho : ownM id v D = (g, D2)) (hg : g ≠ 0) : oneP m l D src = (g, [], D, src) := by
  unfold oneP
  rw [h1]
  simp only [h2]
  rw [if_neg (by omega), if_neg (by rw [hk]; exact Bool.noConfusion), ho]
  simp [hg]
theorem oneP_ok (h1 : nextM l 0 = ((id, k, b), l1, e1)) (h2 : longM l1 e1 m = (v, l2, e2)) (h : e2 = 0) (hk : hasK id D = false) (ho : ownM id v D = (0, D2)) : oneP m l D src = (0, l2, D2, if id = 15#64 then v else src) := by
  unfold oneP
  rw [h1]
  simp only [h2]
  rw [if_neg (by omega), if_neg (by rw [hk]; exact Bool.noConfusion), ho]
  simp
end
end Vi
namespace Sx
open Sha Vi

set_option maxRecDepth 20000 in
set_option maxHeartbeats 4000000 in
theorem fn_ptake (s : Sl) (hs : s.Ok) : FnR Try.prog tds 25 1 [svB s] [.c (svC 0 s)] (fun _ => True)
    (fun y hs => ∃ p e, takeP s.l e p ∧ p.s.Ok ∧ y = .tup [.agg (pmC 1 p), .c (.int .i64 e)] ∧ hs = [svB s, svB p.s]) := by
  refine fn_of_body tds_ok follows_ Try.func25 rfl (t := .a (.c (svC 0 s)) :: anys (Try.f25.ntmps - 1)) rfl (fun w r0 hr _ => ?_)
  obtain ⟨x0, rfl⟩ := List.length_eq_one_iff.1 hr
  (repeat first | (refine And.intro ?_ ?_; first | exact rfl | ((exact fun h => absurd h (by first | decide)); intro yy; clear yy) | (rotate_left; (exact fun h => absurd h (by first | decide)); intro yy; clear yy) | decide | omega) | (with_reducible refine frc_bytesL (by first | omega | decide) ?_) | (with_reducible refine frc_bytesM (by first | omega | decide) ?_))
  refine call_same (fn_vread s hs) [0] rfl (by (repeat first | exact trivial | refine ent1 ?_)) ?_ (fun _ _ => trivial) ?_
  · refine eqC_bts ?_
    (repeat first | exact trivial | refine ent1 ?_)
  rintro x hs' ⟨A, r, hAl, hr, rfl, rfl⟩
  (repeat first | (refine And.intro ?_ ?_; first | exact rfl | ((exact fun h => absurd h (by first | decide)); intro yy; clear yy) | (rotate_left; (exact fun h => absurd h (by first | decide)); intro yy; clear yy) | decide | omega) | (with_reducible refine frc_bytesL (by first | omega | decide) ?_) | (with_reducible refine frc_bytesM (by first | omega | decide) ?_))
  refine .inl ⟨Bs × RS × Said × Sl, fun x => ⟨[.a (.c (svC 0 s)), .any, .a (.c (.p 1 0 0)), .a (.c (.int .i64 (0))), .a (.c (.mh 2)), .a (.c (svC 5 x.2.2.2)), .a (.c (.p 3 0 0)), .any, .any, .any, .any, .any, .any, .any, .any, .any, .any, .any, .any, .any, .any, .any, .any, .any, .any, .any, .any, .any, .any, .any, .any, .any, .any, .any, .any, .any, .any, .any, .any, .any, .any, .any, .any, .any, .any, .any, .any, .any, .any, .any, .any, .any, .any, .any, .any, .any, .any, .any, .any, .any, .any, .any, .any, .any, .any, .any, .any, .any, .any, .any, .any, .any, .any, .any, .any, .any, .any, .any, .any, .any, .any, .any, .any, .any, .any, .any, .any, .any, .any, .any, .any, .any, .any, .any, .any, .any, .any, .any, .any, .any, .any, .any, .any, .any, .any, .any, .any, .any], [svB s, pmC 1 pm0, [.obj (.w64 x.2.2.1)], rdCi 4 x.2.1, svB A, svB x.2.2.2]⟩,
    fun x => RdI A x.2.1 x.1 0 ∧ x.2.2.2.Ok ∧ ∃ f, x.1.length ≤ f ∧ allP s.l.length f x.1 x.2.2.1 x.2.2.2.l = allP s.l.length s.l.length s.l [] [], fun x => x.1.length, ⟨(s.l, r, [], ⟨true, 0, 0, 0, []⟩), [0, 1, 2, 3, 4, 4], ⟨⟨rfl, rfl, rfl⟩, ?_⟩, ⟨hr, nil_ok, _, Nat.le_refl _, rfl⟩⟩, fun x => ?_⟩
  · (repeat first | exact trivial | refine ent1 ?_)
    refine eqC_bts ?_
    (repeat first | exact trivial | refine ent1 ?_)
    refine eqC_btsM ?_
    (repeat first | exact trivial | refine ent1 ?_)
    refine eqSegs_nil ?_
    (repeat first | exact trivial | refine ent1 ?_)
  obtain ⟨l, r, D, src⟩ := x
  rintro ⟨hr, hsrc, f, hf, hall⟩
  dsimp only at hr hsrc hf hall ⊢
  (repeat first | (refine And.intro ?_ ?_; first | exact rfl | ((exact fun h => absurd h (by first | decide)); intro yy; clear yy) | (rotate_left; (exact fun h => absurd h (by first | decide)); intro yy; clear yy) | decide | omega) | (with_reducible refine frc_bytesL (by first | omega | decide) ?_) | (with_reducible refine frc_bytesM (by first | omega | decide) ?_))
  refine call_same (fn_rleft A r hr) [4, 3] rfl (by (repeat first | exact trivial | refine ent1 ?_)) ?_ (fun _ _ => trivial) ?_
  · refine eqC_bts ?_
    (repeat first | exact trivial | refine ent1 ?_)
  rintro x hs' ⟨rfl, rfl⟩
  by_cases h0 : l.length = 0
  · have e0 : decide ((0 : Int) < (l.length : Int)) = false := decide_eq_false (by omega)
    (repeat first | (refine And.intro ?_ ?_; first | exact rfl | ((exact fun h => absurd h (by first | decide | (rw [e0]; decide))); intro yy; clear yy) | (rotate_left; (exact fun h => absurd h (by first | decide | (rw [e0]; decide))); intro yy; clear yy) | decide | omega) | (with_reducible refine frc_bytesL (by first | omega | decide) ?_) | (with_reducible refine frc_bytesM (by first | omega | decide) ?_))
    have hl0 : l = [] := List.eq_nil_of_length_eq_zero h0
    have hres : allP s.l.length s.l.length s.l [] [] = (0, D, src.l) := by rw [← hall, hl0, allP_end]
    (repeat first | (refine And.intro ?_ ?_; first | exact rfl | ((exact fun h => absurd h (by first | decide)); intro yy; clear yy) | (rotate_left; (exact fun h => absurd h (by first | decide)); intro yy; clear yy) | decide | omega) | (with_reducible refine frc_bytesL (by first | omega | decide) ?_) | (with_reducible refine frc_bytesM (by first | omega | decide) ?_))
    by_cases g1 : hasK 15#64 D = true
    rotate_left
    · have g1 : hasK 15#64 D = false := by simpa using g1
      have k1 : (!hasK 15#64 D) = true := by rw [g1]; rfl
      (repeat first | (refine And.intro ?_ ?_; first | exact rfl | ((exact fun h => absurd h (by first | decide | (rw [k1]; decide))); intro yy; clear yy) | (rotate_left; (exact fun h => absurd h (by first | decide | (rw [k1]; decide))); intro yy; clear yy) | decide | omega) | (with_reducible refine frc_bytesL (by first | omega | decide) ?_) | (with_reducible refine frc_bytesM (by first | omega | decide) ?_))
      (repeat first | refine And.intro (by omega) ?_ | refine And.intro (by decide) ?_ | (with_reducible refine frc_parts (by first | omega | decide) ?_) | (with_reducible refine frc_bytesL (by first | omega | decide) ?_) | refine And.intro rfl ?_)
      refine ⟨.tup [.agg (pmC 1 pm0), .c (.int .i64 17)], _, ⟨[0, 1], ⟨rfl, rfl, rfl⟩, ?_⟩, pm0, 17, takeP_none hres g1, nil_ok, rfl, rfl⟩
      (repeat first | exact trivial | refine ent1 ?_)
      refine eqC_bts ?_
      (repeat first | exact trivial | refine ent1 ?_)
    have k1 : (!hasK 15#64 D) = false := by rw [g1]; rfl
    (repeat first | (refine And.intro ?_ ?_; first | exact rfl | ((exact fun h => absurd h (by first | decide | (rw [k1]; decide))); intro yy; clear yy) | (rotate_left; (exact fun h => absurd h (by first | decide | (rw [k1]; decide))); intro yy; clear yy) | decide | omega) | (with_reducible refine frc_bytesL (by first | omega | decide) ?_) | (with_reducible refine frc_bytesM (by first | omega | decide) ?_))
    (repeat first | (refine And.intro ?_ ?_; first | exact rfl | ((exact fun h => absurd h (by first | decide)); intro yy; clear yy) | (rotate_left; (exact fun h => absurd h (by first | decide)); intro yy; clear yy) | decide | omega) | (with_reducible refine frc_bytesL (by first | omega | decide) ?_) | (with_reducible refine frc_bytesM (by first | omega | decide) ?_))
    by_cases g2 : hasK 14#64 D = true
    · have k2 : (!hasK 14#64 D) = false := by rw [g2]; rfl
      have hD : idsP D = D := by unfold idsP; rw [if_pos g2]
      (repeat first | (refine And.intro ?_ ?_; first | exact rfl | ((exact fun h => absurd h (by first | decide | (rw [k2]; decide))); intro yy; clear yy) | (rotate_left; (exact fun h => absurd h (by first | decide | (rw [k2]; decide))); intro yy; clear yy) | decide | omega) | (with_reducible refine frc_bytesL (by first | omega | decide) ?_) | (with_reducible refine frc_bytesM (by first | omega | decide) ?_))
      (repeat first | (refine And.intro ?_ ?_; first | exact rfl | ((exact fun h => absurd h (by first | decide)); intro yy; clear yy) | (rotate_left; (exact fun h => absurd h (by first | decide)); intro yy; clear yy) | decide | omega) | (with_reducible refine frc_bytesL (by first | omega | decide) ?_) | (with_reducible refine frc_bytesM (by first | omega | decide) ?_))
      obtain ⟨q, hq⟩ : ∃ q : Pm, q = ⟨lookK 1#64 0#64 (D), lookK 4#64 0#64 (D), lookK 5#64 0#64 (D), lookK 6#64 0#64 (D), lookK 7#64 0#64 (D), lookK 8#64 0#64 (D), lookK 9#64 0#64 (D), lookK 11#64 0#64 (D), lookK 14#64 0#64 (D), src⟩ := ⟨_, rfl⟩
      have hisP : isP (idsP D) src.l q := by rw [hD, hq]; exact ⟨rfl, rfl, rfl, rfl, rfl, rfl, rfl, rfl, rfl, rfl⟩
      have hqs : q.s = src := by rw [hq]
      refine call_same (fn_pmcheck q) [5] rfl (by subst hq; (repeat first | exact trivial | refine ent1 ?_)) (by subst hq; refine eqC_bts ?_; (repeat first | exact trivial | refine ent1 ?_)) (fun _ _ => trivial) ?_
      rintro x hs' ⟨rfl, rfl⟩
      by_cases g3 : checkP q = 0
      · have k3 : decide (checkP q ≠ 0) = false := decide_eq_false (by omega)
        (repeat first | (refine And.intro ?_ ?_; first | exact rfl | ((exact fun h => absurd h (by first | decide | (rw [k3]; decide))); intro yy; clear yy) | (rotate_left; (exact fun h => absurd h (by first | decide | (rw [k3]; decide))); intro yy; clear yy) | decide | omega) | (with_reducible refine frc_bytesL (by first | omega | decide) ?_) | (with_reducible refine frc_bytesM (by first | omega | decide) ?_))
        (repeat first | refine And.intro (by omega) ?_ | refine And.intro (by decide) ?_ | (with_reducible refine frc_parts (by first | omega | decide) ?_) | (with_reducible refine frc_bytesL (by first | omega | decide) ?_) | refine And.intro rfl ?_)
        refine ⟨.tup [.agg (pmC 1 q), .c (.int .i64 0)], _, ⟨[0, 5], ⟨rfl, rfl, rfl⟩, ?_⟩, q, 0, takeP_ok hres g1 (by rw [hqs]; exact hsrc) hisP (.inr ⟨g3, rfl, rfl⟩), by rw [hqs]; exact hsrc, rfl, rfl⟩
        subst hq
        (repeat first | exact trivial | refine ent1 ?_)
        refine eqC_bts ?_
        (repeat first | exact trivial | refine ent1 ?_)
        refine eqC_bts ?_
        (repeat first | exact trivial | refine ent1 ?_)
      · have k3 : decide (checkP q ≠ 0) = true := decide_eq_true g3
        (repeat first | (refine And.intro ?_ ?_; first | exact rfl | ((exact fun h => absurd h (by first | decide | (rw [k3]; decide))); intro yy; clear yy) | (rotate_left; (exact fun h => absurd h (by first | decide | (rw [k3]; decide))); intro yy; clear yy) | decide | omega) | (with_reducible refine frc_bytesL (by first | omega | decide) ?_) | (with_reducible refine frc_bytesM (by first | omega | decide) ?_))
        (repeat first | refine And.intro (by omega) ?_ | refine And.intro (by decide) ?_ | (with_reducible refine frc_parts (by first | omega | decide) ?_) | (with_reducible refine frc_bytesL (by first | omega | decide) ?_) | refine And.intro rfl ?_)
        refine ⟨.tup [.agg (pmC 1 pm0), .c (.int .i64 (checkP q))], _, ⟨[0, 1], ⟨rfl, rfl, rfl⟩, ?_⟩, pm0, checkP q, takeP_ok hres g1 (by rw [hqs]; exact hsrc) hisP (.inl ⟨g3, rfl, rfl⟩), nil_ok, rfl, rfl⟩
        (repeat first | exact trivial | refine ent1 ?_)
        refine eqC_bts ?_
        (repeat first | exact trivial | refine ent1 ?_)
    have k2 : (!hasK 14#64 D) = true := by rw [show hasK 14#64 D = false by simpa using g2]; rfl
    have hD : idsP D = putK 14#64 2#64 D := by unfold idsP; rw [if_neg g2]
    (repeat first | (refine And.intro ?_ ?_; first | exact rfl | ((exact fun h => absurd h (by first | decide | (rw [k2]; decide))); intro yy; clear yy) | (rotate_left; (exact fun h => absurd h (by first | decide | (rw [k2]; decide))); intro yy; clear yy) | decide | omega) | (with_reducible refine frc_bytesL (by first | omega | decide) ?_) | (with_reducible refine frc_bytesM (by first | omega | decide) ?_))
    (repeat first | (refine And.intro ?_ ?_; first | exact rfl | ((exact fun h => absurd h (by first | decide)); intro yy; clear yy) | (rotate_left; (exact fun h => absurd h (by first | decide)); intro yy; clear yy) | decide | omega) | (with_reducible refine frc_bytesL (by first | omega | decide) ?_) | (with_reducible refine frc_bytesM (by first | omega | decide) ?_))
    obtain ⟨q, hq⟩ : ∃ q : Pm, q = ⟨lookK 1#64 0#64 (putK 14#64 2#64 D), lookK 4#64 0#64 (putK 14#64 2#64 D), lookK 5#64 0#64 (putK 14#64 2#64 D), lookK 6#64 0#64 (putK 14#64 2#64 D), lookK 7#64 0#64 (putK 14#64 2#64 D), lookK 8#64 0#64 (putK 14#64 2#64 D), lookK 9#64 0#64 (putK 14#64 2#64 D), lookK 11#64 0#64 (putK 14#64 2#64 D), lookK 14#64 0#64 (putK 14#64 2#64 D), src⟩ := ⟨_, rfl⟩
    have hisP : isP (idsP D) src.l q := by rw [hD, hq]; exact ⟨rfl, rfl, rfl, rfl, rfl, rfl, rfl, rfl, rfl, rfl⟩
    have hqs : q.s = src := by rw [hq]
    refine call_same (fn_pmcheck q) [5] rfl (by subst hq; (repeat first | exact trivial | refine ent1 ?_)) (by subst hq; refine eqC_bts ?_; (repeat first | exact trivial | refine ent1 ?_)) (fun _ _ => trivial) ?_
    rintro x hs' ⟨rfl, rfl⟩
    by_cases g3 : checkP q = 0
    · have k3 : decide (checkP q ≠ 0) = false := decide_eq_false (by omega)
      (repeat first | (refine And.intro ?_ ?_; first | exact rfl | ((exact fun h => absurd h (by first | decide | (rw [k3]; decide))); intro yy; clear yy) | (rotate_left; (exact fun h => absurd h (by first | decide | (rw [k3]; decide))); intro yy; clear yy) | decide | omega) | (with_reducible refine frc_bytesL (by first | omega | decide) ?_) | (with_reducible refine frc_bytesM (by first | omega | decide) ?_))
      (repeat first | refine And.intro (by omega) ?_ | refine And.intro (by decide) ?_ | (with_reducible refine frc_parts (by first | omega | decide) ?_) | (with_reducible refine frc_bytesL (by first | omega | decide) ?_) | refine And.intro rfl ?_)
      refine ⟨.tup [.agg (pmC 1 q), .c (.int .i64 0)], _, ⟨[0, 5], ⟨rfl, rfl, rfl⟩, ?_⟩, q, 0, takeP_ok hres g1 (by rw [hqs]; exact hsrc) hisP (.inr ⟨g3, rfl, rfl⟩), by rw [hqs]; exact hsrc, rfl, rfl⟩
      subst hq
      (repeat first | exact trivial | refine ent1 ?_)
      refine eqC_bts ?_
      (repeat first | exact trivial | refine ent1 ?_)
      refine eqC_bts ?_
      (repeat first | exact trivial | refine ent1 ?_)
    · have k3 : decide (checkP q ≠ 0) = true := decide_eq_true g3
      (repeat first | (refine And.intro ?_ ?_; first | exact rfl | ((exact fun h => absurd h (by first | decide | (rw [k3]; decide))); intro yy; clear yy) | (rotate_left; (exact fun h => absurd h (by first | decide | (rw [k3]; decide))); intro yy; clear yy) | decide | omega) | (with_reducible refine frc_bytesL (by first | omega | decide) ?_) | (with_reducible refine frc_bytesM (by first | omega | decide) ?_))
      (repeat first | refine And.intro (by omega) ?_ | refine And.intro (by decide) ?_ | (with_reducible refine frc_parts (by first | omega | decide) ?_) | (with_reducible refine frc_bytesL (by first | omega | decide) ?_) | refine And.intro rfl ?_)
      refine ⟨.tup [.agg (pmC 1 pm0), .c (.int .i64 (checkP q))], _, ⟨[0, 1], ⟨rfl, rfl, rfl⟩, ?_⟩, pm0, checkP q, takeP_ok hres g1 (by rw [hqs]; exact hsrc) hisP (.inl ⟨g3, rfl, rfl⟩), nil_ok, rfl, rfl⟩
      (repeat first | exact trivial | refine ent1 ?_)
      refine eqC_bts ?_
      (repeat first | exact trivial | refine ent1 ?_)
  have e0 : decide ((0 : Int) < (l.length : Int)) = true := decide_eq_true (by omega)
  (repeat first | (refine And.intro ?_ ?_; first | exact rfl | ((exact fun h => absurd h (by first | decide | (rw [e0]; decide))); intro yy; clear yy) | (rotate_left; (exact fun h => absurd h (by first | decide | (rw [e0]; decide))); intro yy; clear yy) | decide | omega) | (with_reducible refine frc_bytesL (by first | omega | decide) ?_) | (with_reducible refine frc_bytesM (by first | omega | decide) ?_))
  refine call_same (fn_rint A r hr) [4, 3] rfl (by (repeat first | exact trivial | refine ent1 ?_)) ?_ (fun _ _ => trivial) ?_
  · refine eqC_bts ?_
    (repeat first | exact trivial | refine ent1 ?_)
  rintro x hs' ⟨id, k, b, r1, l1, e1', hx1, hr1, rfl, rfl⟩
  (repeat first | (refine And.intro ?_ ?_; first | exact rfl | ((exact fun h => absurd h (by first | decide)); intro yy; clear yy) | (rotate_left; (exact fun h => absurd h (by first | decide)); intro yy; clear yy) | decide | omega) | (with_reducible refine frc_bytesL (by first | omega | decide) ?_) | (with_reducible refine frc_bytesM (by first | omega | decide) ?_))
  refine call_same (fn_rlong A r1 s.l.length hr1 hs.small) [4, 3] rfl (by (repeat first | exact trivial | refine ent1 ?_)) ?_ (fun _ _ => trivial) ?_
  · refine eqC_bts ?_
    (repeat first | exact trivial | refine ent1 ?_)
  rintro x hs' ⟨v, r2, l2, e2', hx2, hr2, hv, rfl, rfl⟩
  (repeat first | (refine And.intro ?_ ?_; first | exact rfl | ((exact fun h => absurd h (by first | decide)); intro yy; clear yy) | (rotate_left; (exact fun h => absurd h (by first | decide)); intro yy; clear yy) | decide | omega) | (with_reducible refine frc_bytesL (by first | omega | decide) ?_) | (with_reducible refine frc_bytesM (by first | omega | decide) ?_))
  refine call_same (fn_rerr A r2 hr2) [4, 3] rfl (by (repeat first | exact trivial | refine ent1 ?_)) ?_ (fun _ _ => trivial) ?_
  · refine eqC_bts ?_
    (repeat first | exact trivial | refine ent1 ?_)
  rintro x hs' ⟨rfl, rfl⟩
  by_cases h2 : e2' = 0
  rotate_left
  · have e2 : decide (e2' ≠ 0) = true := decide_eq_true h2
    (repeat first | (refine And.intro ?_ ?_; first | exact rfl | ((exact fun h => absurd h (by first | decide | (rw [e2]; decide))); intro yy; clear yy) | (rotate_left; (exact fun h => absurd h (by first | decide | (rw [e2]; decide))); intro yy; clear yy) | decide | omega) | (with_reducible refine frc_bytesL (by first | omega | decide) ?_) | (with_reducible refine frc_bytesM (by first | omega | decide) ?_))
    (repeat first | refine And.intro (by omega) ?_ | refine And.intro (by decide) ?_ | (with_reducible refine frc_parts (by first | omega | decide) ?_) | (with_reducible refine frc_bytesL (by first | omega | decide) ?_) | refine And.intro rfl ?_)
    refine ⟨.tup [.agg (pmC 1 pm0), .c (.int .i64 e2')], _, ⟨[0, 1], ⟨rfl, rfl, rfl⟩, ?_⟩, pm0, e2', ?_, nil_ok, rfl, rfl⟩
    · (repeat first | exact trivial | refine ent1 ?_)
      refine eqC_bts ?_
      (repeat first | exact trivial | refine ent1 ?_)
    · obtain ⟨f, rfl⟩ : ∃ g, f = g + 1 := ⟨f - 1, by omega⟩
      exact takeP_bad (by rw [← hall]; exact allP_bad h0 (oneP_err hx1 hx2 h2) h2) h2
  have e2 : decide (e2' ≠ 0) = false := decide_eq_false (by omega)
  (repeat first | (refine And.intro ?_ ?_; first | exact rfl | ((exact fun h => absurd h (by first | decide | (rw [e2]; decide))); intro yy; clear yy) | (rotate_left; (exact fun h => absurd h (by first | decide | (rw [e2]; decide))); intro yy; clear yy) | decide | omega) | (with_reducible refine frc_bytesL (by first | omega | decide) ?_) | (with_reducible refine frc_bytesM (by first | omega | decide) ?_))
  (repeat first | (refine And.intro ?_ ?_; first | exact rfl | ((exact fun h => absurd h (by first | decide)); intro yy; clear yy) | (rotate_left; (exact fun h => absurd h (by first | decide)); intro yy; clear yy) | decide | omega) | (with_reducible refine frc_bytesL (by first | omega | decide) ?_) | (with_reducible refine frc_bytesM (by first | omega | decide) ?_))
  by_cases h3 : hasK id D = true
  · (repeat first | (refine And.intro ?_ ?_; first | exact rfl | ((exact fun h => absurd h (by first | decide | (rw [h3]; decide))); intro yy; clear yy) | (rotate_left; (exact fun h => absurd h (by first | decide | (rw [h3]; decide))); intro yy; clear yy) | decide | omega) | (with_reducible refine frc_bytesL (by first | omega | decide) ?_) | (with_reducible refine frc_bytesM (by first | omega | decide) ?_))
    (repeat first | refine And.intro (by omega) ?_ | refine And.intro (by decide) ?_ | (with_reducible refine frc_parts (by first | omega | decide) ?_) | (with_reducible refine frc_bytesL (by first | omega | decide) ?_) | refine And.intro rfl ?_)
    refine ⟨.tup [.agg (pmC 1 pm0), .c (.int .i64 18)], _, ⟨[0, 1], ⟨rfl, rfl, rfl⟩, ?_⟩, pm0, 18, ?_, nil_ok, rfl, rfl⟩
    · (repeat first | exact trivial | refine ent1 ?_)
      refine eqC_bts ?_
      (repeat first | exact trivial | refine ent1 ?_)
    · obtain ⟨f, rfl⟩ : ∃ g, f = g + 1 := ⟨f - 1, by omega⟩
      exact takeP_bad (by rw [← hall]; exact allP_bad h0 (oneP_two hx1 hx2 h2 h3) (by decide)) (by decide)
  have h3 : hasK id D = false := by simpa using h3
  (repeat first | (refine And.intro ?_ ?_; first | exact rfl | ((exact fun h => absurd h (by first | decide | (rw [h3]; decide))); intro yy; clear yy) | (rotate_left; (exact fun h => absurd h (by first | decide | (rw [h3]; decide))); intro yy; clear yy) | decide | omega) | (with_reducible refine frc_bytesL (by first | omega | decide) ?_) | (with_reducible refine frc_bytesM (by first | omega | decide) ?_))
  (repeat first | (refine And.intro ?_ ?_; first | exact rfl | ((exact fun h => absurd h (by first | decide)); intro yy; clear yy) | (rotate_left; (exact fun h => absurd h (by first | decide)); intro yy; clear yy) | decide | omega) | (with_reducible refine frc_bytesL (by first | omega | decide) ?_) | (with_reducible refine frc_bytesM (by first | omega | decide) ?_))
  by_cases h4 : id = 15#64
  · have e4 : decide (id = 15#64) = true := decide_eq_true h4
    have e5 : numId id = false := by rw [h4]; rfl
    (repeat first | (refine And.intro ?_ ?_; first | exact rfl | ((exact fun h => absurd h (by first | decide | (rw [e4]; decide))); intro yy; clear yy) | (rotate_left; (exact fun h => absurd h (by first | decide | (rw [e4]; decide))); intro yy; clear yy) | decide | omega) | (with_reducible refine frc_bytesL (by first | omega | decide) ?_) | (with_reducible refine frc_bytesM (by first | omega | decide) ?_))
    (repeat first | (refine And.intro ?_ ?_; first | exact rfl | ((exact fun h => absurd h (by first | decide)); intro yy; clear yy) | (rotate_left; (exact fun h => absurd h (by first | decide)); intro yy; clear yy) | decide | omega) | (with_reducible refine frc_bytesL (by first | omega | decide) ?_) | (with_reducible refine frc_bytesM (by first | omega | decide) ?_))
    refine call_same (fn_isnum id) [] rfl (by (repeat first | exact trivial | refine ent1 ?_)) trivial (fun _ _ => trivial) ?_
    rintro x hs' ⟨rfl, rfl⟩
    (repeat first | (refine And.intro ?_ ?_; first | exact rfl | ((exact fun h => absurd h (by first | decide | (rw [e5]; decide))); intro yy; clear yy) | (rotate_left; (exact fun h => absurd h (by first | decide | (rw [e5]; decide))); intro yy; clear yy) | decide | omega) | (with_reducible refine frc_bytesL (by first | omega | decide) ?_) | (with_reducible refine frc_bytesM (by first | omega | decide) ?_))
    (repeat first | (refine And.intro ?_ ?_; first | exact rfl | ((exact fun h => absurd h (by first | decide)); intro yy; clear yy) | (rotate_left; (exact fun h => absurd h (by first | decide)); intro yy; clear yy) | decide | omega) | (with_reducible refine frc_bytesL (by first | omega | decide) ?_) | (with_reducible refine frc_bytesM (by first | omega | decide) ?_))
    have ho : ownM id v.l D = (0, putK id 0#64 D) := by unfold ownM; rw [e5]
    obtain ⟨f, rfl⟩ : ∃ g, f = g + 1 := ⟨f - 1, by omega⟩
    have hlt := one_shorter hx1 hx2 h2
    refine ⟨(l2, r2, putK id 0#64 D, v), [0, 1, 2, 3, 4, 6], ⟨⟨rfl, rfl, rfl⟩, ?_⟩, ⟨h2 ▸ hr2, hv, f, by dsimp only; omega, by dsimp only; rw [← hall, allP_step h0 (oneP_ok hx1 hx2 h2 h3 ho), if_pos h4]⟩, hlt⟩
    (repeat first | exact trivial | refine ent1 ?_)
    refine eqC_bts ?_
    (repeat first | exact trivial | refine ent1 ?_)
    refine eqC_bts ?_
    (repeat first | exact trivial | refine ent1 ?_)
    refine eqC_btsM ?_
    (repeat first | exact trivial | refine ent1 ?_)
  have e4 : decide (id = 15#64) = false := decide_eq_false h4
  (repeat first | (refine And.intro ?_ ?_; first | exact rfl | ((exact fun h => absurd h (by first | decide | (rw [e4]; decide))); intro yy; clear yy) | (rotate_left; (exact fun h => absurd h (by first | decide | (rw [e4]; decide))); intro yy; clear yy) | decide | omega) | (with_reducible refine frc_bytesL (by first | omega | decide) ?_) | (with_reducible refine frc_bytesM (by first | omega | decide) ?_))
  (repeat first | (refine And.intro ?_ ?_; first | exact rfl | ((exact fun h => absurd h (by first | decide)); intro yy; clear yy) | (rotate_left; (exact fun h => absurd h (by first | decide)); intro yy; clear yy) | decide | omega) | (with_reducible refine frc_bytesL (by first | omega | decide) ?_) | (with_reducible refine frc_bytesM (by first | omega | decide) ?_))
  refine call_same (fn_isnum id) [] rfl (by (repeat first | exact trivial | refine ent1 ?_)) trivial (fun _ _ => trivial) ?_
  rintro x hs' ⟨rfl, rfl⟩
  by_cases h5 : numId id = true
  rotate_left
  · have e5 : numId id = false := by simpa using h5
    (repeat first | (refine And.intro ?_ ?_; first | exact rfl | ((exact fun h => absurd h (by first | decide | (rw [e5]; decide))); intro yy; clear yy) | (rotate_left; (exact fun h => absurd h (by first | decide | (rw [e5]; decide))); intro yy; clear yy) | decide | omega) | (with_reducible refine frc_bytesL (by first | omega | decide) ?_) | (with_reducible refine frc_bytesM (by first | omega | decide) ?_))
    (repeat first | (refine And.intro ?_ ?_; first | exact rfl | ((exact fun h => absurd h (by first | decide)); intro yy; clear yy) | (rotate_left; (exact fun h => absurd h (by first | decide)); intro yy; clear yy) | decide | omega) | (with_reducible refine frc_bytesL (by first | omega | decide) ?_) | (with_reducible refine frc_bytesM (by first | omega | decide) ?_))
    have ho : ownM id v.l D = (0, putK id 0#64 D) := by unfold ownM; rw [e5]
    obtain ⟨f, rfl⟩ : ∃ g, f = g + 1 := ⟨f - 1, by omega⟩
    have hlt := one_shorter hx1 hx2 h2
    refine ⟨(l2, r2, putK id 0#64 D, src), [0, 1, 2, 3, 4, 5], ⟨⟨rfl, rfl, rfl⟩, ?_⟩, ⟨h2 ▸ hr2, hsrc, f, by dsimp only; omega, by dsimp only; rw [← hall, allP_step h0 (oneP_ok hx1 hx2 h2 h3 ho), if_neg h4]⟩, hlt⟩
    (repeat first | exact trivial | refine ent1 ?_)
    refine eqC_bts ?_
    (repeat first | exact trivial | refine ent1 ?_)
    refine eqC_bts ?_
    (repeat first | exact trivial | refine ent1 ?_)
    refine eqC_bts ?_
    (repeat first | exact trivial | refine ent1 ?_)
  (repeat first | (refine And.intro ?_ ?_; first | exact rfl | ((exact fun h => absurd h (by first | decide | (rw [h5]; decide))); intro yy; clear yy) | (rotate_left; (exact fun h => absurd h (by first | decide | (rw [h5]; decide))); intro yy; clear yy) | decide | omega) | (with_reducible refine frc_bytesL (by first | omega | decide) ?_) | (with_reducible refine frc_bytesM (by first | omega | decide) ?_))
  refine call_same (fn_vread v hv) [6] rfl (by (repeat first | exact trivial | refine ent1 ?_)) ?_ (fun _ _ => trivial) ?_
  · refine eqC_btsM ?_
    (repeat first | exact trivial | refine ent1 ?_)
  rintro x hs' ⟨B, r3, hBl, hr3, rfl, rfl⟩
  (repeat first | (refine And.intro ?_ ?_; first | exact rfl | ((exact fun h => absurd h (by first | decide)); intro yy; clear yy) | (rotate_left; (exact fun h => absurd h (by first | decide)); intro yy; clear yy) | decide | omega) | (with_reducible refine frc_bytesL (by first | omega | decide) ?_) | (with_reducible refine frc_bytesM (by first | omega | decide) ?_))
  refine call_same (fn_rint B r3 hr3) [8, 7] rfl (by (repeat first | exact trivial | refine ent1 ?_)) ?_ (fun _ _ => trivial) ?_
  · refine eqC_btsM ?_
    (repeat first | exact trivial | refine ent1 ?_)
  rintro x hs' ⟨n, k2, b2, r4, l4, e4', hx4, hr4, rfl, rfl⟩
  (repeat first | (refine And.intro ?_ ?_; first | exact rfl | ((exact fun h => absurd h (by first | decide)); intro yy; clear yy) | (rotate_left; (exact fun h => absurd h (by first | decide)); intro yy; clear yy) | decide | omega) | (with_reducible refine frc_bytesL (by first | omega | decide) ?_) | (with_reducible refine frc_bytesM (by first | omega | decide) ?_))
  refine call_same (fn_rend B r4 hr4) [8, 7] rfl (by (repeat first | exact trivial | refine ent1 ?_)) ?_ (fun _ _ => trivial) ?_
  · refine eqC_btsM ?_
    (repeat first | exact trivial | refine ent1 ?_)
  rintro x hs' ⟨r5, l5, e5', hx5, hr5, rfl, rfl⟩
  have ho : ownM id v.l D = (e5', putK id n (putK id 0#64 D)) := by
    unfold ownM
    rw [h5]
    simp only [hx4, hx5]
  obtain ⟨f, rfl⟩ : ∃ g, f = g + 1 := ⟨f - 1, by omega⟩
  by_cases h6 : e5' = 0
  rotate_left
  · have e6 : decide (e5' ≠ 0) = true := decide_eq_true h6
    (repeat first | (refine And.intro ?_ ?_; first | exact rfl | ((exact fun h => absurd h (by first | decide | (rw [e6]; decide))); intro yy; clear yy) | (rotate_left; (exact fun h => absurd h (by first | decide | (rw [e6]; decide))); intro yy; clear yy) | decide | omega) | (with_reducible refine frc_bytesL (by first | omega | decide) ?_) | (with_reducible refine frc_bytesM (by first | omega | decide) ?_))
    (repeat first | refine And.intro (by omega) ?_ | refine And.intro (by decide) ?_ | (with_reducible refine frc_parts (by first | omega | decide) ?_) | (with_reducible refine frc_bytesL (by first | omega | decide) ?_) | refine And.intro rfl ?_)
    refine ⟨.tup [.agg (pmC 1 pm0), .c (.int .i64 e5')], _, ⟨[0, 1], ⟨rfl, rfl, rfl⟩, ?_⟩, pm0, e5', ?_, nil_ok, rfl, rfl⟩
    · (repeat first | exact trivial | refine ent1 ?_)
      refine eqC_bts ?_
      (repeat first | exact trivial | refine ent1 ?_)
    · exact takeP_bad (by rw [← hall]; exact allP_bad h0 (oneP_own hx1 hx2 h2 h3 ho h6) h6) h6
  have e6 : decide (e5' ≠ 0) = false := decide_eq_false (by omega)
  (repeat first | (refine And.intro ?_ ?_; first | exact rfl | ((exact fun h => absurd h (by first | decide | (rw [e6]; decide))); intro yy; clear yy) | (rotate_left; (exact fun h => absurd h (by first | decide | (rw [e6]; decide))); intro yy; clear yy) | decide | omega) | (with_reducible refine frc_bytesL (by first | omega | decide) ?_) | (with_reducible refine frc_bytesM (by first | omega | decide) ?_))
  (repeat first | (refine And.intro ?_ ?_; first | exact rfl | ((exact fun h => absurd h (by first | decide)); intro yy; clear yy) | (rotate_left; (exact fun h => absurd h (by first | decide)); intro yy; clear yy) | decide | omega) | (with_reducible refine frc_bytesL (by first | omega | decide) ?_) | (with_reducible refine frc_bytesM (by first | omega | decide) ?_))
  have hlt := one_shorter hx1 hx2 h2
  refine ⟨(l2, r2, putK id n (putK id 0#64 D), src), [0, 1, 2, 3, 4, 5], ⟨⟨rfl, rfl, rfl⟩, ?_⟩, ⟨h2 ▸ hr2, hsrc, f, by dsimp only; omega, by dsimp only; rw [← hall, allP_step h0 (oneP_ok hx1 hx2 h2 h3 (by rw [ho, h6])), if_neg h4]⟩, hlt⟩
  (repeat first | exact trivial | refine ent1 ?_)
  refine eqC_bts ?_
  (repeat first | exact trivial | refine ent1 ?_)
  refine eqC_bts ?_
  (repeat first | exact trivial | refine ent1 ?_)
  refine eqC_bts ?_
  (repeat first | exact trivial | refine ent1 ?_)
end Sx
end Go.Proofs.Ytkjdkeolkigibaa
end

section
/-
  The program's numbers put behind other bytes: mark, attach. No condition.
-/
namespace Go.Proofs.Ytkjdkeolkigibaa
set_option linter.unusedVariables false
namespace Vi
open Sha
/-- The first j bytes of k, without what tells how many there are. -/
def partL (n : BitVec 64) (k j : Nat) : Bs := tab j fun i => byteN n (k - 1 - i)
@[simp] theorem partL_len (n : BitVec 64) (k j : Nat) : (partL n k j).length = j := tab_len _ _
theorem L_part {n : BitVec 64} {k j i : Nat} (h : i < j) : L (partL n k j) i = byteN n (k - 1 - i) := L_tab h
theorem L_wide {n : BitVec 64} {k i : Nat} (h : i < k) : L (wideL n k) i = if i = 0 then byteN n (k - 1) ||| markB k else byteN n (k - 1 - i) := L_tab h
theorem partL_succ (n : BitVec 64) (k j : Nat) : partL n k (j + 1) = partL n k j ++ [byteN n (k - 1 - j)] := by
  unfold partL tab
  rw [List.range_succ, List.map_append]
  rfl
theorem partL_one (n : BitVec 64) (k : Nat) : partL n k 1 = [byteN n (k - 1)] := rfl
theorem shl8 : ∀ i : Nat, i < 8 → (8#64 * BitVec.ofInt 64 (i : Int)).toNat = 8 * i := by decide +kernel
theorem byte_at (n : BitVec 64) (k j : Nat) (hj : j < k) (hk : k ≤ 8) : BitVec.setWidth 8 (n >>> (8#64 * BitVec.ofInt 64 ((k : Int) - 1 - (j : Int))).toNat) = byteN n (k - 1 - j) := by
  rw [show (k : Int) - 1 - (j : Int) = ((k - 1 - j : Nat) : Int) by omega, shl8 _ (by omega)]
  rfl
end Vi
namespace Sx
open Sha Vi

/-- Bytes of an own slice, room behind them. -/
abbrev lsC (b : Bs) (c : Nat) : List Seg := [.row c (bytesF b.length (L b))]
theorem fn_vmark (k : Nat) (hk : okSz k) : Fn Try.prog tds 77 [] [.c (.int .i64 (k : Nat))] (fun _ => True) (fun x hs => x = .tup [.c (.w8 (markB k)), .c (.bool true)] ∧ hs = []) := by
  refine fn_of_body tds_ok follows_ Try.func77 rfl (t := .a (.c (.int .i64 (k : Nat))) :: anys (Try.f77.ntmps - 1)) rfl (fun w r0 hr _ => ?_)
  obtain rfl : r0 = [] := List.eq_nil_of_length_eq_zero hr
  rcases hk with rfl | rfl | rfl | rfl
  · refine ⟨fun h => ?_, fun h => absurd h (by decide)⟩
    exact ⟨.tup [.c (.w8 0#8), .c (.bool true)], [], ⟨[], ⟨rfl, rfl, rfl⟩, rfl, rfl, trivial⟩, rfl, rfl⟩
  · refine ⟨fun h => absurd h (by decide), fun _ => ⟨fun h => ?_, fun h => absurd h (by decide)⟩⟩
    exact ⟨.tup [.c (.w8 64#8), .c (.bool true)], [], ⟨[], ⟨rfl, rfl, rfl⟩, rfl, rfl, trivial⟩, rfl, rfl⟩
  · refine ⟨fun h => absurd h (by decide), fun _ => ⟨fun h => absurd h (by decide), fun _ => ⟨fun h => ?_, fun h => absurd h (by decide)⟩⟩⟩
    exact ⟨.tup [.c (.w8 128#8), .c (.bool true)], [], ⟨[], ⟨rfl, rfl, rfl⟩, rfl, rfl, trivial⟩, rfl, rfl⟩
  · refine ⟨fun h => absurd h (by decide), fun _ => ⟨fun h => absurd h (by decide), fun _ => ⟨fun h => absurd h (by decide), fun _ => ⟨fun h => ?_, fun h => absurd h (by decide)⟩⟩⟩⟩
    exact ⟨.tup [.c (.w8 192#8), .c (.bool true)], [], ⟨[], ⟨rfl, rfl, rfl⟩, rfl, rfl, trivial⟩, rfl, rfl⟩
theorem wide_row {b : Bs} {n : BitVec 64} {j : Nat} (hj : 1 ≤ j) (i : Nat) (hi : i < b.length + j) :
    upd (bytesF (b.length + j) (L (b ++ partL n j j))) b.length (.w8 (L (b ++ partL n j j) b.length ||| markB j)) i = .w8 (L (b ++ wideL n j) i) := by
  refine upd_bytes (by omega) (congrArg SC.w8 ?_) (fun q hq => ?_) i hi
  · rw [L_app, L_app, if_neg (by omega), if_neg (by omega), Nat.sub_self, L_part (by omega), L_wide (by omega), if_pos rfl, Nat.sub_zero]
  · by_cases h : q < b.length + j
    · rw [L_app, L_app]
      by_cases h1 : q < b.length
      · rw [if_pos h1, if_pos h1]
      · rw [if_neg h1, if_neg h1, L_part (by omega), L_wide (by omega), if_neg (by omega)]
    · have e1 : (b ++ partL n j j).length ≤ q := by simp; omega
      have e2 : (b ++ wideL n j).length ≤ q := by simp; omega
      unfold L
      rw [List.getD_eq_getElem?_getD, List.getD_eq_getElem?_getD, List.getElem?_eq_none e1, List.getElem?_eq_none e2]
set_option maxRecDepth 20000 in
theorem fn_vattach (b : Bs) (c : Nat) (n : BitVec 64) (k : Nat) (hk : okSz k) (hb : b.length ≤ 1000000) (hc : b.length ≤ c) : Fn Try.prog tds 78 [lsC b c] [.c (.sl 0 0 0 b.length c), .c (.w64 n), .c (.int .i64 (k : Nat))] (fun _ => True)
    (fun x hs => ∃ c', b.length + k ≤ c' ∧ x = .a (.c (.sl 1 0 0 (b ++ wideL n k).length c')) ∧ hs = [[], lsC (b ++ wideL n k) c']) := by
  refine fn_of_body tds_ok follows_ Try.func78 rfl (t := [.a (.c (.sl 0 0 0 b.length c)), .a (.c (.w64 (n))), .a (.c (.int .i64 ((k : Nat)))), .any, .any, .any, .any, .any, .any, .any, .any, .any, .any, .any, .any, .any, .any, .any, .any, .any, .any, .any, .any, .any, .any, .any, .any, .any, .any, .any, .any, .any, .any, .any, .any, .any, .any, .any, .any, .any, .any]) rfl (fun w r0 hr _ => ?_)
  obtain ⟨x0, rfl⟩ := List.length_eq_one_iff.1 hr
  have hk8 : 1 ≤ k ∧ k ≤ 8 := by rcases hk with rfl | rfl | rfl | rfl <;> omega
  (repeat first | refine And.intro (by omega) ?_ | refine And.intro (by decide) ?_ | (with_reducible refine frc_parts (by first | omega | decide) ?_) | (with_reducible refine frc_bytesL (by first | omega | decide) ?_) | refine And.intro rfl ?_)
  refine call_same (fn_vmark k hk) [] rfl (by (repeat first | exact trivial | refine ent1 ?_)) trivial (fun _ _ => trivial) ?_
  rintro x hs ⟨rfl, rfl⟩
  (repeat first | refine And.intro (by omega) ?_ | refine And.intro (by decide) ?_ | (with_reducible refine frc_parts (by first | omega | decide) ?_) | (with_reducible refine frc_bytesL (by first | omega | decide) ?_) | refine And.intro rfl ?_)
  refine .inl ⟨Option (Nat × Nat), fun x => match x with
    | none => ⟨[.a (.c (.sl 0 0 0 b.length c)), .a (.c (.w64 (n))), .a (.c (.int .i64 ((k : Nat)))), .any, .any, .any, .any, .a (.c (.w8 (markB k))), .any, .a (.c (.int .i64 ((b.length : Nat)))), .a (.c (.int .i64 ((k : Int) - 1))), .any, .any, .any, .any, .any, .any, .any, .any, .any, .any, .any, .any, .any, .any, .any, .any, .any, .any, .any, .any, .any, .any, .any, .any, .any, .any, .any, .any, .any, .any], [lsC b c]⟩
    | some (j, c') => ⟨[.a (.c (.sl 1 0 0 (b.length + j) c')), .a (.c (.w64 (n))), .a (.c (.int .i64 ((k : Nat)))), .any, .any, .any, .any, .a (.c (.w8 (markB k))), .any, .a (.c (.int .i64 ((b.length : Nat)))), .a (.c (.int .i64 ((k : Int) - 1 - (j : Int)))), .any, .any, .any, .any, .any, .any, .any, .any, .any, .any, .any, .any, .any, .any, .any, .any, .any, .any, .any, .any, .any, .any, .any, .any, .any, .any, .any, .any, .any, .any], [[], [.row c' (bytesF (b.length + j) (L (b ++ partL n k j)))]]⟩,
    fun x => match x with
    | none => True
    | some (j, c') => 1 ≤ j ∧ j ≤ k ∧ b.length + j ≤ c', fun x => match x with
    | none => 9
    | some (j, _) => 8 - j, ⟨none, [0], ⟨⟨rfl, rfl, rfl⟩, ?_⟩, trivial⟩, fun x => ?_⟩
  · (repeat first | exact trivial | refine ent1 ?_)
  rcases x with _ | ⟨j, c'⟩
  · intro _
    have e1 : decide (0 ≤ (k : Int) - 1) = true := decide_eq_true (by omega)
    (repeat first | refine And.intro (by omega) ?_ | refine And.intro (by decide) ?_ | refine And.intro rfl ?_ | refine And.intro (fun _ => ?_) (fun h => Bool.noConfusion h) | refine And.intro (fun h => Bool.noConfusion h) (fun _ => ?_) | refine And.intro (fun _ => ?_) (fun h => absurd h (by rw [e1]; decide)) | refine And.intro (fun h => absurd h (by rw [e1]; decide)) (fun _ => ?_))
    refine ⟨⟨by omega, by simp only [scale]; omega, by show (b.length + 1) * 1 ≤ 140737488355328; omega⟩, fun c' hc' => ?_⟩
    refine ⟨⟨by omega, by omega⟩, some (1, c'), [0, 2], ⟨⟨rfl, rfl, rfl⟩, ?_⟩, ⟨by omega, by omega, by omega⟩, by show 8 - 1 < 9; omega⟩
    (repeat first | exact trivial | refine ent1 ?_)
    refine ⟨fun j hj => eqC_bytes (fun i hi => ?_) j, trivial⟩
    rw [partL_one]
    exact app_row rfl rfl (fun i hi => bytesF_lt hi) (fun i hi => one_row (by have := byte_at n k 0 (by omega) (by omega); simpa using this) i hi) i hi
  · rintro ⟨h1, h2, h3⟩
    refine ⟨fun h => ?_, fun h => ?_⟩
    · have hj : j < k := by have : (0 : Int) ≤ (k : Int) - 1 - j := of_decide_eq_true h; omega
      (repeat first | refine And.intro (by omega) ?_ | refine And.intro (by decide) ?_ | (with_reducible refine frc_parts (by first | omega | decide) ?_) | (with_reducible refine frc_bytesL (by first | omega | decide) ?_) | refine And.intro rfl ?_)
      refine ⟨⟨by omega, by simp only [scale]; omega, by show (b.length + j + 1) * 1 ≤ 140737488355328; omega⟩, fun c2 hc2 => ?_⟩
      refine ⟨⟨by omega, by omega⟩, some (j + 1, c2), [0, 3], ⟨⟨rfl, rfl, rfl⟩, ?_⟩, ⟨by omega, by omega, by omega⟩, by dsimp only; omega⟩
      (repeat first | exact trivial | refine ent1 ?_)
      refine ⟨fun j' hj' => eqC_bytes (fun i hi => ?_) j', trivial⟩
      rw [partL_succ, ← List.append_assoc]
      exact app_row (by simp) rfl (fun i hi => bytesF_lt hi) (fun i hi => one_row (byte_at n k j hj (by omega)) i hi) i hi
    · obtain rfl : j = k := by have : ¬ (0 : Int) ≤ (k : Int) - 1 - j := of_decide_eq_false h; omega
      (repeat first | refine And.intro (by omega) ?_ | refine And.intro (by decide) ?_ | (with_reducible refine frc_parts (by first | omega | decide) ?_) | (with_reducible refine frc_bytesL (by first | omega | decide) ?_) | refine And.intro rfl ?_)
      refine ⟨.a (.c (.sl 1 0 0 (b ++ wideL n j).length c')), _, ⟨[0, 1], ⟨rfl, rfl, rfl⟩, ?_⟩, c', h3, rfl, rfl⟩
      refine ⟨rfl, by simp, rfl, ?_⟩
      (repeat first | exact trivial | refine ent1 ?_)
      refine ⟨fun i hi => eqC_bytes (fun i hi => ?_) i, trivial⟩
      have hi : i < b.length + j := by simpa using hi
      exact wide_row (by omega) i hi
set_option maxRecDepth 20000 in
theorem fn_vattach0 (n : BitVec 64) (k : Nat) (hk : okSz k) : Fn Try.prog tds 78 [] [.c (.slc none 0 0), .c (.w64 n), .c (.int .i64 (k : Nat))] (fun _ => True)
    (fun x hs => ∃ c', k ≤ c' ∧ x = .a (.c (.sl 0 0 0 (wideL n k).length c')) ∧ hs = [lsC (wideL n k) c']) := by
  refine fn_of_body tds_ok follows_ Try.func78 rfl (t := [.a (.c (.slc none 0 0)), .a (.c (.w64 (n))), .a (.c (.int .i64 ((k : Nat)))), .any, .any, .any, .any, .any, .any, .any, .any, .any, .any, .any, .any, .any, .any, .any, .any, .any, .any, .any, .any, .any, .any, .any, .any, .any, .any, .any, .any, .any, .any, .any, .any, .any, .any, .any, .any, .any, .any]) rfl (fun w r0 hr _ => ?_)
  obtain rfl : r0 = [] := List.eq_nil_of_length_eq_zero hr
  have hk8 : 1 ≤ k ∧ k ≤ 8 := by rcases hk with rfl | rfl | rfl | rfl <;> omega
  (repeat first | refine And.intro (by omega) ?_ | refine And.intro (by decide) ?_ | (with_reducible refine frc_parts (by first | omega | decide) ?_) | (with_reducible refine frc_bytesL (by first | omega | decide) ?_) | refine And.intro rfl ?_)
  refine call_same (fn_vmark k hk) [] rfl (by (repeat first | exact trivial | refine ent1 ?_)) trivial (fun _ _ => trivial) ?_
  rintro x hs ⟨rfl, rfl⟩
  (repeat first | refine And.intro (by omega) ?_ | refine And.intro (by decide) ?_ | (with_reducible refine frc_parts (by first | omega | decide) ?_) | (with_reducible refine frc_bytesL (by first | omega | decide) ?_) | refine And.intro rfl ?_)
  refine .inl ⟨Option (Nat × Nat), fun x => match x with
    | none => ⟨[.a (.c (.slc none 0 0)), .a (.c (.w64 (n))), .a (.c (.int .i64 ((k : Nat)))), .any, .any, .any, .any, .a (.c (.w8 (markB k))), .any, .a (.c (.int .i64 (0))), .a (.c (.int .i64 ((k : Int) - 1))), .any, .any, .any, .any, .any, .any, .any, .any, .any, .any, .any, .any, .any, .any, .any, .any, .any, .any, .any, .any, .any, .any, .any, .any, .any, .any, .any, .any, .any, .any], []⟩
    | some (j, c') => ⟨[.a (.c (.sl 0 0 0 j c')), .a (.c (.w64 (n))), .a (.c (.int .i64 ((k : Nat)))), .any, .any, .any, .any, .a (.c (.w8 (markB k))), .any, .a (.c (.int .i64 (0))), .a (.c (.int .i64 ((k : Int) - 1 - (j : Int)))), .any, .any, .any, .any, .any, .any, .any, .any, .any, .any, .any, .any, .any, .any, .any, .any, .any, .any, .any, .any, .any, .any, .any, .any, .any, .any, .any, .any, .any, .any], [[.row c' (bytesF j (L (partL n k j)))]]⟩,
    fun x => match x with
    | none => True
    | some (j, c') => 1 ≤ j ∧ j ≤ k ∧ j ≤ c', fun x => match x with
    | none => 9
    | some (j, _) => 8 - j, ⟨none, [], ⟨⟨rfl, rfl, rfl⟩, ?_⟩, trivial⟩, fun x => ?_⟩
  · (repeat first | exact trivial | refine ent1 ?_)
  rcases x with _ | ⟨j, c'⟩
  · intro _
    have e1 : decide (0 ≤ (k : Int) - 1) = true := decide_eq_true (by omega)
    (repeat first | refine And.intro (by omega) ?_ | refine And.intro (by decide) ?_ | refine And.intro rfl ?_ | refine And.intro (fun _ => ?_) (fun h => Bool.noConfusion h) | refine And.intro (fun h => Bool.noConfusion h) (fun _ => ?_) | refine And.intro (fun _ => ?_) (fun h => absurd h (by rw [e1]; decide)) | refine And.intro (fun h => absurd h (by rw [e1]; decide)) (fun _ => ?_))
    refine fun _ c' hc' => ?_
    refine ⟨⟨by omega, by omega⟩, some (1, c'), [1], ⟨⟨rfl, rfl, rfl⟩, ?_⟩, ⟨by omega, by omega, by omega⟩, by show 8 - 1 < 9; omega⟩
    (repeat first | exact trivial | refine ent1 ?_)
    refine ⟨fun j hj => eqC_bytes (fun i hi => ?_) j, trivial⟩
    rw [partL_one]
    exact new_row (fun i hi => one_row (by have := byte_at n k 0 (by omega) (by omega); simpa using this) i hi) i hi
  · rintro ⟨h1, h2, h3⟩
    refine ⟨fun h => ?_, fun h => ?_⟩
    · have hj : j < k := by have : (0 : Int) ≤ (k : Int) - 1 - j := of_decide_eq_true h; omega
      (repeat first | refine And.intro (by omega) ?_ | refine And.intro (by decide) ?_ | (with_reducible refine frc_parts (by first | omega | decide) ?_) | (with_reducible refine frc_bytesL (by first | omega | decide) ?_) | refine And.intro rfl ?_)
      refine ⟨⟨by omega, by simp only [scale]; omega, by show (j + 1) * 1 ≤ 140737488355328; omega⟩, fun c2 hc2 => ?_⟩
      refine ⟨⟨by omega, by omega⟩, some (j + 1, c2), [2], ⟨⟨rfl, rfl, rfl⟩, ?_⟩, ⟨by omega, by omega, by omega⟩, by dsimp only; omega⟩
      (repeat first | exact trivial | refine ent1 ?_)
      refine ⟨fun j' hj' => eqC_bytes (fun i hi => ?_) j', trivial⟩
      rw [partL_succ]
      exact app_row (by simp) rfl (fun i hi => bytesF_lt hi) (fun i hi => one_row (byte_at n k j hj (by omega)) i hi) i hi
    · obtain rfl : j = k := by have : ¬ (0 : Int) ≤ (k : Int) - 1 - j := of_decide_eq_false h; omega
      (repeat first | refine And.intro (by omega) ?_ | refine And.intro (by decide) ?_ | (with_reducible refine frc_parts (by first | omega | decide) ?_) | (with_reducible refine frc_bytesL (by first | omega | decide) ?_) | refine And.intro rfl ?_)
      refine ⟨.a (.c (.sl 0 0 0 (wideL n j).length c')), _, ⟨[0], ⟨rfl, rfl, rfl⟩, ?_⟩, c', h3, rfl, rfl⟩
      refine ⟨rfl, by simp, rfl, ?_⟩
      (repeat first | exact trivial | refine ent1 ?_)
      refine ⟨fun i hi => eqC_bytes (fun i hi => ?_) i, trivial⟩
      have hi : i < 0 + j := by simpa using hi
      have := wide_row (b := []) (n := n) (j := j) (by omega) i (by simpa using hi)
      simpa using this
end Sx
end Go.Proofs.Ytkjdkeolkigibaa
end

section
/-
  The program's writer of numbers and bytes; Wide. No condition.
-/
namespace Go.Proofs.Ytkjdkeolkigibaa
set_option linter.unusedVariables false
namespace Vi
open Sha
/-- Numbers, one behind the other. -/
def putAll : List (BitVec 64) → Bs
  | [] => []
  | n :: r => putL n ++ putAll r
theorem putAll_snoc : ∀ (l : List (BitVec 64)) (n : BitVec 64), putAll (l ++ [n]) = putAll l ++ putL n
  | [], n => by simp [putAll]
  | x :: l, n => by simp [putAll, putAll_snoc l n]
theorem putL_len (n : BitVec 64) : (putL n).length = lenN n := wideL_len _ _
theorem lenN_le (n : BitVec 64) : lenN n ≤ 8 := by have := lenN_spec n; omega
theorem putAll_len : ∀ l : List (BitVec 64), (putAll l).length ≤ 8 * l.length
  | [] => Nat.le_refl _
  | x :: l => by
    have := putAll_len l
    have := lenN_le x
    simp only [putAll, List.length_append, putL_len, List.length_cons]
    omega
theorem take_succ {α : Type} {l : List α} {i : Nat} {x : α} (h : l[i]? = some x) : l.take (i + 1) = l.take i ++ [x] := by
  rw [List.take_add_one, h]; rfl
end Vi
namespace Sx
open Sha Vi

/-- A writer with nothing in it; with bytes in block i. -/
abbrev wrN : List Seg := [.one (.slc none 0 0), .one (.int .i64 0)]
abbrev wrC (i : Nat) (b : Bs) (c : Nat) : List Seg := [.one (.sl i 0 0 b.length c), .one (.int .i64 0)]
set_option maxRecDepth 20000 in
theorem fn_wbytes (s : Sl) (hs : s.Ok) (b : Bs) (c : Nat) (hb : b.length ≤ 1000000) (hc : b.length ≤ c) : FnR Try.prog tds 49 1 [svB s, wrC 2 b c, lsC b c] [.c (.p 1 0 0), .c (svC 0 s)] (fun _ => True)
    (fun y hs => ∃ c', (b ++ s.l).length ≤ c' ∧ y = .tup [] ∧ hs = [svB s, wrC 3 (b ++ s.l) c', [], lsC (b ++ s.l) c']) := by
  refine fn_of_body tds_ok follows_ Try.func49 rfl (t := .a (.c (.p 1 0 0)) :: .a (.c (svC 0 s)) :: anys (Try.f49.ntmps - 2)) rfl (fun w r0 hr0 _ => ?_)
  obtain ⟨x0, x1, x2, rfl⟩ := len3' hr0
  have hsm := hs.small
  (repeat first | refine And.intro (by omega) ?_ | refine And.intro (by decide) ?_ | refine And.intro rfl ?_ | refine And.intro (fun _ => ?_) (fun h => Bool.noConfusion h) | refine And.intro (fun h => Bool.noConfusion h) (fun _ => ?_))
  refine sn_bts rfl hs.fit (fun h => by rw [hs.nil h]; rfl) (fun g hg => ?_)
  refine ⟨⟨hc, by simp only [scale]; omega, by show (b.length + s.l.length) * 1 ≤ 140737488355328; omega⟩, fun c' hc' => ?_⟩
  (repeat first | refine And.intro (by omega) ?_ | refine And.intro (by decide) ?_ | refine And.intro rfl ?_ | refine And.intro (fun _ => ?_) (fun h => Bool.noConfusion h) | refine And.intro (fun h => Bool.noConfusion h) (fun _ => ?_))
  refine ⟨.tup [], _, ⟨[0, 1, 2, 3], ⟨rfl, rfl, rfl⟩, ?_⟩, c', by simpa using hc', rfl, rfl⟩
  refine eqC_bts ?_
  refine ⟨rfl, by simp, ?_⟩
  (repeat first | exact trivial | refine ent1 ?_)
  refine ⟨fun j hj => eqC_bytes (fun i hi => ?_) j, trivial⟩
  exact app_row rfl rfl (fun i hi => bytesF_lt hi) hg i (by simpa using hi)
/-- Numbers in a row. -/
def numsF (l : List (BitVec 64)) : Nat → SC := fun j => match l[j]? with
  | some x => .w64 x
  | none => .any
theorem frc_nums {l : List (BitVec 64)} {j : Nat} {x : BitVec 64} {k : SC → Prop} (h : l[j]? = some x) (hk : k (.w64 x)) : frcSC (numsF l j) k := by
  unfold numsF; rw [h]; exact hk
theorem eqC_nums {q : List Nat} {l : List (BitVec 64)} {f : Nat → SC} (h : ∀ (j : Nat) (x : BitVec 64), l[j]? = some x → f j = .w64 x) (j : Nat) : eqC q (f j) (numsF l j) True := by
  unfold numsF
  cases e : l[j]? with
  | none => trivial
  | some x => rw [h j x e]; exact ⟨rfl, trivial⟩
theorem eqC_numsS {q : List Nat} {l : List (BitVec 64)} {j : Nat} : eqC q (numsF l j) (numsF l j) True := eqC_nums (fun j x h => by unfold numsF; rw [h]) j
set_option maxRecDepth 20000 in
theorem fn_wint (l : List (BitVec 64)) (M cm : Nat) (b : Bs) (c : Nat) (hl : ∀ n ∈ l, lenN n ≠ 0) (hM : l.length ≤ M) (hlm : l.length ≤ 1000) (hb : b.length ≤ 500000) (hc : b.length ≤ c) :
    FnR Try.prog tds 56 1 [[.row M (numsF l)], wrC 2 b c, lsC b c] [.c (.p 1 0 0), .c (.sl 0 0 0 l.length cm)] (fun _ => True)
    (fun y hs => (l = [] → y = .tup [] ∧ hs = [[.row M (numsF l)], wrC 2 b c, lsC b c]) ∧ (l ≠ [] → ∃ c', (b ++ putAll l).length ≤ c' ∧ y = .tup [] ∧ hs = [[.row M (numsF l)], wrC 3 (b ++ putAll l) c', [], lsC (b ++ putAll l) c'])) := by
  refine fn_of_body tds_ok follows_ Try.func56 rfl (t := .a (.c (.p 1 0 0)) :: .a (.c (.sl 0 0 0 l.length cm)) :: anys (Try.f56.ntmps - 2)) rfl (fun w r0 hr0 _ => ?_)
  obtain ⟨x0, x1, x2, rfl⟩ := len3' hr0
  (repeat first | refine And.intro (by omega) ?_ | refine And.intro (by decide) ?_ | refine And.intro rfl ?_ | refine And.intro (fun _ => ?_) (fun h => Bool.noConfusion h) | refine And.intro (fun h => Bool.noConfusion h) (fun _ => ?_))
  refine .inl ⟨Option (Nat × Nat × Bs), fun x => match x with
    | none => ⟨[.a (.c (.p 1 0 0)), .any, .any, .any, .any, .any, .any, .any, .any, .any, .any, .any, .any, .any, .any, .any, .a (.c (.sl 0 0 0 l.length cm)), .a (.c (.int .i64 ((l.length : Nat)))), .a (.c (.int .i64 (0))), .any, .any, .any, .any, .any, .any, .any, .any, .any, .any, .any, .any, .any, .any, .any, .any, .any, .any, .any, .any, .any], [[.row M (numsF l)], wrC 2 b c, lsC b c]⟩
    | some (j, c', B) => ⟨[.a (.c (.p 1 0 0)), .any, .any, .any, .any, .any, .any, .any, .any, .any, .any, .any, .any, .any, .any, .any, .a (.c (.sl 0 0 0 l.length cm)), .a (.c (.int .i64 ((l.length : Nat)))), .a (.c (.int .i64 ((j : Nat)))), .any, .any, .any, .any, .any, .any, .any, .any, .any, .any, .any, .any, .any, .any, .any, .any, .any, .any, .any, .any, .any], [[.row M (numsF l)], wrC 3 B c', [], lsC B c']⟩,
    fun x => match x with
    | none => True
    | some (j, c', B) => 1 ≤ j ∧ j ≤ l.length ∧ B.length ≤ c' ∧ B = b ++ putAll (l.take j), fun x => match x with
    | none => l.length + 1
    | some (j, _, _) => l.length - j, ⟨none, [0, 1, 2], ⟨⟨rfl, rfl, rfl⟩, ?_⟩, trivial⟩, fun x => ?_⟩
  · (repeat first | exact trivial | refine ent1 ?_)
    exact ⟨fun j hj => eqC_numsS, by (repeat first | exact trivial | refine ent1 ?_)⟩
  rcases x with _ | ⟨j, c', B⟩
  · intro _
    refine ⟨fun h => ?_, fun h => ?_⟩
    · have hl0 : 0 < l.length := by have : (0 : Int) < (l.length : Int) := of_decide_eq_true h; omega
      obtain ⟨n, hn⟩ : ∃ n, l[0]? = some n := ⟨l[0], List.getElem?_eq_getElem hl0⟩
      have hne := hl n (List.mem_of_getElem? hn)
      (repeat first | refine And.intro (by omega) ?_ | refine And.intro (by decide) ?_ | (with_reducible refine frc_parts (by first | omega | decide) ?_) | (with_reducible refine frc_bytesL (by first | omega | decide) ?_) | refine And.intro rfl ?_)
      have hn' : l[Int.toNat 0 + 0]? = some n := hn
      with_reducible refine frc_nums hn' ?_
      (repeat first | refine And.intro (by omega) ?_ | refine And.intro (by decide) ?_ | (with_reducible refine frc_parts (by first | omega | decide) ?_) | (with_reducible refine frc_bytesL (by first | omega | decide) ?_) | refine And.intro rfl ?_)
      refine call_same (fn_vlen n) [] rfl (by (repeat first | exact trivial | refine ent1 ?_)) trivial (fun _ _ => trivial) ?_
      rintro x hs ⟨rfl, rfl⟩
      have e1 : decide ((lenN n : Int) = 0) = false := decide_eq_false (by omega)
      (repeat first | refine And.intro (by omega) ?_ | refine And.intro (by decide) ?_ | refine And.intro rfl ?_ | refine And.intro (fun _ => ?_) (fun h => Bool.noConfusion h) | refine And.intro (fun h => Bool.noConfusion h) (fun _ => ?_) | refine And.intro (fun _ => ?_) (fun h => absurd h (by rw [e1]; decide)) | refine And.intro (fun h => absurd h (by rw [e1]; decide)) (fun _ => ?_))
      refine call_same (fn_vattach b c n (lenN n) (lenN_ok hne) (by omega) hc) [2] rfl (by (repeat first | exact trivial | refine ent1 ?_)) ?_ (fun _ _ => trivial) ?_
      · (repeat first | exact trivial | refine ent1 ?_)
      rintro x hs ⟨c', hc', rfl, rfl⟩
      have ep : putAll (l.take 1) = wideL n (lenN n) := by
        rw [take_succ hn, putAll_snoc]; simp [putAll, putL]
      (repeat first | refine And.intro (by omega) ?_ | refine And.intro (by decide) ?_ | (with_reducible refine frc_parts (by first | omega | decide) ?_) | (with_reducible refine frc_bytesL (by first | omega | decide) ?_) | refine And.intro rfl ?_)
      refine ⟨some (1, c', b ++ wideL n (lenN n)), [0, 1, 2, 3], ⟨⟨rfl, rfl, rfl⟩, ?_⟩, ⟨by omega, by omega, by simpa using hc', by rw [ep]⟩, by dsimp only; omega⟩
      (repeat first | exact trivial | refine ent1 ?_)
      exact ⟨fun j hj => eqC_numsS, by (repeat first | exact trivial | refine ent1 ?_)⟩
    · have hl0 : l = [] := List.eq_nil_of_length_eq_zero (by have : ¬ (0 : Int) < (l.length : Int) := of_decide_eq_false h; omega)
      (repeat first | refine And.intro (by omega) ?_ | refine And.intro (by decide) ?_ | (with_reducible refine frc_parts (by first | omega | decide) ?_) | (with_reducible refine frc_bytesL (by first | omega | decide) ?_) | refine And.intro rfl ?_)
      refine ⟨.tup [], _, ⟨[0, 1, 2], ⟨rfl, rfl, rfl⟩, ?_⟩, fun _ => ⟨rfl, rfl⟩, fun h => absurd hl0 h⟩
      exact ⟨rfl, fun j hj => eqC_numsS, by (repeat first | exact trivial | refine ent1 ?_)⟩
  · rintro ⟨h1, h2, h3, hB⟩
    refine ⟨fun h => ?_, fun h => ?_⟩
    · have hj : j < l.length := by have : (j : Int) < (l.length : Int) := of_decide_eq_true h; omega
      obtain ⟨n, hn⟩ : ∃ n, l[j]? = some n := ⟨l[j], List.getElem?_eq_getElem hj⟩
      have hne := hl n (List.mem_of_getElem? hn)
      (repeat first | refine And.intro (by omega) ?_ | refine And.intro (by decide) ?_ | (with_reducible refine frc_parts (by first | omega | decide) ?_) | (with_reducible refine frc_bytesL (by first | omega | decide) ?_) | refine And.intro rfl ?_)
      have hn' : l[((j : Nat) : Int).toNat + 0]? = some n := hn
      with_reducible refine frc_nums hn' ?_
      (repeat first | refine And.intro (by omega) ?_ | refine And.intro (by decide) ?_ | (with_reducible refine frc_parts (by first | omega | decide) ?_) | (with_reducible refine frc_bytesL (by first | omega | decide) ?_) | refine And.intro rfl ?_)
      refine call_same (fn_vlen n) [] rfl (by (repeat first | exact trivial | refine ent1 ?_)) trivial (fun _ _ => trivial) ?_
      rintro x hs ⟨rfl, rfl⟩
      have e1 : decide ((lenN n : Int) = 0) = false := decide_eq_false (by omega)
      (repeat first | refine And.intro (by omega) ?_ | refine And.intro (by decide) ?_ | refine And.intro rfl ?_ | refine And.intro (fun _ => ?_) (fun h => Bool.noConfusion h) | refine And.intro (fun h => Bool.noConfusion h) (fun _ => ?_) | refine And.intro (fun _ => ?_) (fun h => absurd h (by rw [e1]; decide)) | refine And.intro (fun h => absurd h (by rw [e1]; decide)) (fun _ => ?_))
      have hpl := putAll_len (l.take j)
      have htl : (l.take j).length ≤ 1000 := by rw [List.length_take]; omega
      refine call_same (fn_vattach B c' n (lenN n) (lenN_ok hne) (by rw [hB, List.length_append]; have : (putAll (l.take j)).length ≤ 8 * (l.take j).length := hpl; omega) h3) [3] rfl (by (repeat first | exact trivial | refine ent1 ?_)) ?_ (fun _ _ => trivial) ?_
      · (repeat first | exact trivial | refine ent1 ?_)
      rintro x hs ⟨c2, hc2, rfl, rfl⟩
      have ep : b ++ putAll (l.take (j + 1)) = b ++ putAll (l.take j) ++ wideL n (lenN n) := by
        rw [take_succ hn, putAll_snoc, List.append_assoc]; rfl
      (repeat first | refine And.intro (by omega) ?_ | refine And.intro (by decide) ?_ | (with_reducible refine frc_parts (by first | omega | decide) ?_) | (with_reducible refine frc_bytesL (by first | omega | decide) ?_) | refine And.intro rfl ?_)
      refine ⟨some (j + 1, c2, B ++ wideL n (lenN n)), [0, 1, 2, 4], ⟨⟨rfl, rfl, rfl⟩, ?_⟩, ⟨by omega, by omega, by simpa using hc2, by rw [ep, hB]⟩, by dsimp only; omega⟩
      (repeat first | exact trivial | refine ent1 ?_)
      exact ⟨fun j hj => eqC_numsS, by (repeat first | exact trivial | refine ent1 ?_)⟩
    · have hj : j = l.length := by have : ¬ (j : Int) < (l.length : Int) := of_decide_eq_false h; omega
      subst hj
      rw [List.take_length] at hB
      subst hB
      (repeat first | refine And.intro (by omega) ?_ | refine And.intro (by decide) ?_ | (with_reducible refine frc_parts (by first | omega | decide) ?_) | (with_reducible refine frc_bytesL (by first | omega | decide) ?_) | refine And.intro rfl ?_)
      refine ⟨.tup [], _, ⟨[0, 1, 2, 3], ⟨rfl, rfl, rfl⟩, ?_⟩, fun h => absurd h (by intro e; subst e; simp at h1), fun _ => ⟨c', h3, rfl, rfl⟩⟩
      exact ⟨rfl, fun j hj => eqC_numsS, by (repeat first | exact trivial | refine ent1 ?_)⟩
end Sx
end Go.Proofs.Ytkjdkeolkigibaa
end

section
/-
  The program's writer: long ones, all of it; Wide. No condition.
-/
namespace Go.Proofs.Ytkjdkeolkigibaa
set_option linter.unusedVariables false
namespace Vi
open Sha
/-- Some bytes, their number ahead. -/
def longL (l : Bs) : Bs := putL (BitVec.ofNat 64 l.length) ++ l
theorem lenN_of {n : Nat} (h : n ≤ 1000000) : lenN (BitVec.ofNat 64 n) ≠ 0 := by
  have := lenN_spec (BitVec.ofNat 64 n)
  rw [BitVec.toNat_ofNat, Nat.mod_eq_of_lt (by omega)] at this
  omega
theorem longL_len (l : Bs) : (longL l).length ≤ 8 + l.length := by
  have := lenN_le (BitVec.ofNat 64 l.length)
  simp only [longL, List.length_append, putL_len]
  omega
end Vi
namespace Sx
open Sha Vi

set_option maxRecDepth 20000 in
theorem fn_wlong (s : Sl) (hs : s.Ok) (b : Bs) (c : Nat) (hb : b.length ≤ 400000) (hc : b.length ≤ c) : FnR Try.prog tds 51 1 [svB s, wrC 2 b c, lsC b c] [.c (.p 1 0 0), .c (svC 0 s)] (fun _ => True)
    (fun y hs => ∃ c', (b ++ longL s.l).length ≤ c' ∧ y = .tup [] ∧ hs = [svB s, wrC 3 (b ++ longL s.l) c', [], lsC (b ++ longL s.l) c']) := by
  refine fn_of_body tds_ok follows_ Try.func51 rfl (t := .a (.c (.p 1 0 0)) :: .a (.c (svC 0 s)) :: anys (Try.f51.ntmps - 2)) rfl (fun w r0 hr0 _ => ?_)
  obtain ⟨x0, x1, x2, rfl⟩ := len3' hr0
  have hsm := hs.small
  have hne := lenN_of hsm
  (repeat first | refine And.intro (by omega) ?_ | refine And.intro (by decide) ?_ | (with_reducible refine frc_parts (by first | omega | decide) ?_) | (with_reducible refine frc_bytesL (by first | omega | decide) ?_) | refine And.intro rfl ?_)
  refine call_same (fn_wint [BitVec.ofNat 64 s.l.length] 1 1 b c (fun n hn => by simp at hn; rw [hn]; exact hne) (Nat.le_refl _) (by simp) (by omega) hc) [3, 1, 2] rfl (by (repeat first | exact trivial | refine ent1 ?_)) ?_ (fun _ _ => trivial) ?_
  · refine ⟨rfl, fun j hj => eqC_nums (fun i x h => ?_) j, ?_⟩
    · have hi : i = 0 := by
        have := (List.getElem?_eq_some_iff.1 h).1
        simp at this
        exact this
      subst hi
      simp at h
      subst h
      show SC.w64 (BitVec.ofInt 64 ((s.l.length : Nat) : Int)) = _
      rw [BitVec.ofInt_natCast]
    (repeat first | exact trivial | refine ent1 ?_)
  rintro x hs' ⟨-, hx⟩
  obtain ⟨c1, hc1, rfl, rfl⟩ := hx (by simp)
  clear hx
  obtain ⟨B, hB⟩ : ∃ B, b ++ putAll [BitVec.ofNat 64 s.l.length] = B := ⟨_, rfl⟩
  have hBl : B.length ≤ 400008 := by
    have := putAll_len [BitVec.ofNat 64 s.l.length]
    rw [← hB, List.length_append]
    simp only [List.length_cons, List.length_nil] at this
    omega
  rw [hB] at hc1 ⊢
  have hf : b ++ longL s.l = B ++ s.l := by rw [← hB]; simp [longL, putAll]
  rw [hf]
  (repeat first | refine And.intro (by omega) ?_ | refine And.intro (by decide) ?_ | (with_reducible refine frc_parts (by first | omega | decide) ?_) | (with_reducible refine frc_bytesL (by first | omega | decide) ?_) | refine And.intro rfl ?_)
  refine call_same (fn_wbytes s hs B c1 (by omega) hc1) [0, 1, 4] rfl (by (repeat first | exact trivial | refine ent1 ?_)) ?_ (fun _ _ => trivial) ?_
  · refine eqC_bts ?_
    (repeat first | exact trivial | refine ent1 ?_)
  rintro x hs' ⟨c2, hc2, rfl, rfl⟩
  refine ⟨.tup [], _, ⟨[0, 1, 2, 5], ⟨rfl, rfl, rfl⟩, ?_⟩, c2, hc2, rfl, rfl⟩
  refine eqC_bts ?_
  (repeat first | exact trivial | refine ent1 ?_)
set_option maxRecDepth 20000 in
theorem fn_wdone (b : Bs) (c : Nat) (hb : b.length ≤ 1000000) (hc : b.length ≤ c) (h0 : 0 < b.length) : FnR Try.prog tds 50 2 [wrC 1 b c, lsC b c] [.c (.p 0 0 0)] (fun _ => True)
    (fun y hs => ∃ c', b.length ≤ c' ∧ y = .tup [.c (.sl 2 0 0 b.length c'), .c (.int .i64 0)] ∧ hs = [wrC 1 b c, lsC b c, lsC b c']) := by
  refine fn_of_body tds_ok follows_ Try.func50 rfl (t := .a (.c (.p 0 0 0)) :: anys (Try.f50.ntmps - 1)) rfl (fun w r0 hr0 _ => ?_)
  obtain ⟨x0, x1, rfl⟩ := len2' hr0
  (repeat first | refine And.intro (by omega) ?_ | refine And.intro (by decide) ?_ | refine And.intro rfl ?_ | refine And.intro (fun _ => ?_) (fun h => Bool.noConfusion h) | refine And.intro (fun h => Bool.noConfusion h) (fun _ => ?_))
  refine ⟨by show 0 + b.length ≤ c; omega, ⟨rfl, rfl⟩, by show b.length * 1 ≤ 140737488355328; omega, fun hm0 => absurd hm0 (by omega), fun hm0 c' hc' => ?_⟩
  refine ⟨.tup [.c (.sl 2 0 0 b.length c'), .c (.int .i64 0)], _, ⟨[0, 1, 2], ⟨rfl, rfl, rfl⟩, ?_⟩, c', hc', rfl, rfl⟩
  (repeat first | exact trivial | refine ent1 ?_)
  exact ⟨fun j hj => eqC_bytes (fun i hi => new_row (m := b) (fun q hq => bytesF_lt hq) i hi) j, trivial⟩
end Sx
end Go.Proofs.Ytkjdkeolkigibaa
end

section
/-
  Numbers put into a writer that has nothing yet. No condition.
-/
namespace Go.Proofs.Ytkjdkeolkigibaa
set_option linter.unusedVariables false
namespace Sx
open Sha Vi

set_option maxRecDepth 20000 in
theorem fn_wint0 (l : List (BitVec 64)) (M cm : Nat) (hl : ∀ n ∈ l, lenN n ≠ 0) (hM : l.length ≤ M) (hlm : l.length ≤ 1000) (h0 : l ≠ []) :
    FnR Try.prog tds 56 1 [[.row M (numsF l)], wrN] [.c (.p 1 0 0), .c (.sl 0 0 0 l.length cm)] (fun _ => True)
    (fun y hs => ∃ c', (putAll l).length ≤ c' ∧ y = .tup [] ∧ hs = [[.row M (numsF l)], wrC 2 (putAll l) c', lsC (putAll l) c']) := by
  refine fn_of_body tds_ok follows_ Try.func56 rfl (t := .a (.c (.p 1 0 0)) :: .a (.c (.sl 0 0 0 l.length cm)) :: anys (Try.f56.ntmps - 2)) rfl (fun w r0 hr0 _ => ?_)
  obtain ⟨x0, x1, rfl⟩ := len2' hr0
  (repeat first | refine And.intro (by omega) ?_ | refine And.intro (by decide) ?_ | refine And.intro rfl ?_ | refine And.intro (fun _ => ?_) (fun h => Bool.noConfusion h) | refine And.intro (fun h => Bool.noConfusion h) (fun _ => ?_))
  refine .inl ⟨Option (Nat × Nat × Bs), fun x => match x with
    | none => ⟨[.a (.c (.p 1 0 0)), .any, .any, .any, .any, .any, .any, .any, .any, .any, .any, .any, .any, .any, .any, .any, .a (.c (.sl 0 0 0 l.length cm)), .a (.c (.int .i64 ((l.length : Nat)))), .a (.c (.int .i64 (0))), .any, .any, .any, .any, .any, .any, .any, .any, .any, .any, .any, .any, .any, .any, .any, .any, .any, .any, .any, .any, .any], [[.row M (numsF l)], wrN]⟩
    | some (j, c', B) => ⟨[.a (.c (.p 1 0 0)), .any, .any, .any, .any, .any, .any, .any, .any, .any, .any, .any, .any, .any, .any, .any, .a (.c (.sl 0 0 0 l.length cm)), .a (.c (.int .i64 ((l.length : Nat)))), .a (.c (.int .i64 ((j : Nat)))), .any, .any, .any, .any, .any, .any, .any, .any, .any, .any, .any, .any, .any, .any, .any, .any, .any, .any, .any, .any, .any], [[.row M (numsF l)], wrC 2 B c', lsC B c']⟩,
    fun x => match x with
    | none => True
    | some (j, c', B) => 1 ≤ j ∧ j ≤ l.length ∧ B.length ≤ c' ∧ B = putAll (l.take j), fun x => match x with
    | none => l.length + 1
    | some (j, _, _) => l.length - j, ⟨none, [0, 1], ⟨⟨rfl, rfl, rfl⟩, ?_⟩, trivial⟩, fun x => ?_⟩
  · (repeat first | exact trivial | refine ent1 ?_)
    exact ⟨fun j hj => eqC_numsS, by (repeat first | exact trivial | refine ent1 ?_)⟩
  rcases x with _ | ⟨j, c', B⟩
  · intro _
    refine ⟨fun h => ?_, fun h => ?_⟩
    · have hl0 : 0 < l.length := by have : (0 : Int) < (l.length : Int) := of_decide_eq_true h; omega
      obtain ⟨n, hn⟩ : ∃ n, l[0]? = some n := ⟨l[0], List.getElem?_eq_getElem hl0⟩
      have hne := hl n (List.mem_of_getElem? hn)
      (repeat first | refine And.intro (by omega) ?_ | refine And.intro (by decide) ?_ | (with_reducible refine frc_parts (by first | omega | decide) ?_) | (with_reducible refine frc_bytesL (by first | omega | decide) ?_) | refine And.intro rfl ?_)
      have hn' : l[Int.toNat 0 + 0]? = some n := hn
      with_reducible refine frc_nums hn' ?_
      (repeat first | refine And.intro (by omega) ?_ | refine And.intro (by decide) ?_ | (with_reducible refine frc_parts (by first | omega | decide) ?_) | (with_reducible refine frc_bytesL (by first | omega | decide) ?_) | refine And.intro rfl ?_)
      refine call_same (fn_vlen n) [] rfl (by (repeat first | exact trivial | refine ent1 ?_)) trivial (fun _ _ => trivial) ?_
      rintro x hs ⟨rfl, rfl⟩
      have e1 : decide ((lenN n : Int) = 0) = false := decide_eq_false (by omega)
      (repeat first | refine And.intro (by omega) ?_ | refine And.intro (by decide) ?_ | refine And.intro rfl ?_ | refine And.intro (fun _ => ?_) (fun h => Bool.noConfusion h) | refine And.intro (fun h => Bool.noConfusion h) (fun _ => ?_) | refine And.intro (fun _ => ?_) (fun h => absurd h (by rw [e1]; decide)) | refine And.intro (fun h => absurd h (by rw [e1]; decide)) (fun _ => ?_))
      refine call_same (fn_vattach0 n (lenN n) (lenN_ok hne)) [] rfl (by (repeat first | exact trivial | refine ent1 ?_)) trivial (fun _ _ => trivial) ?_
      rintro x hs ⟨c', hc', rfl, rfl⟩
      have ep : putAll (l.take 1) = wideL n (lenN n) := by
        rw [take_succ hn, putAll_snoc]; simp [putAll, putL]
      (repeat first | refine And.intro (by omega) ?_ | refine And.intro (by decide) ?_ | (with_reducible refine frc_parts (by first | omega | decide) ?_) | (with_reducible refine frc_bytesL (by first | omega | decide) ?_) | refine And.intro rfl ?_)
      refine ⟨some (1, c', wideL n (lenN n)), [0, 1, 2], ⟨⟨rfl, rfl, rfl⟩, ?_⟩, ⟨by omega, by omega, by simpa using hc', by rw [ep]⟩, by dsimp only; omega⟩
      (repeat first | exact trivial | refine ent1 ?_)
      exact ⟨fun j hj => eqC_numsS, by (repeat first | exact trivial | refine ent1 ?_)⟩
    · have hl0 : l = [] := List.eq_nil_of_length_eq_zero (by have : ¬ (0 : Int) < (l.length : Int) := of_decide_eq_false h; omega)
      exact absurd hl0 h0
  · rintro ⟨h1, h2, h3, hB⟩
    refine ⟨fun h => ?_, fun h => ?_⟩
    · have hj : j < l.length := by have : (j : Int) < (l.length : Int) := of_decide_eq_true h; omega
      obtain ⟨n, hn⟩ : ∃ n, l[j]? = some n := ⟨l[j], List.getElem?_eq_getElem hj⟩
      have hne := hl n (List.mem_of_getElem? hn)
      (repeat first | refine And.intro (by omega) ?_ | refine And.intro (by decide) ?_ | (with_reducible refine frc_parts (by first | omega | decide) ?_) | (with_reducible refine frc_bytesL (by first | omega | decide) ?_) | refine And.intro rfl ?_)
      have hn' : l[((j : Nat) : Int).toNat + 0]? = some n := hn
      with_reducible refine frc_nums hn' ?_
      (repeat first | refine And.intro (by omega) ?_ | refine And.intro (by decide) ?_ | (with_reducible refine frc_parts (by first | omega | decide) ?_) | (with_reducible refine frc_bytesL (by first | omega | decide) ?_) | refine And.intro rfl ?_)
      refine call_same (fn_vlen n) [] rfl (by (repeat first | exact trivial | refine ent1 ?_)) trivial (fun _ _ => trivial) ?_
      rintro x hs ⟨rfl, rfl⟩
      have e1 : decide ((lenN n : Int) = 0) = false := decide_eq_false (by omega)
      (repeat first | refine And.intro (by omega) ?_ | refine And.intro (by decide) ?_ | refine And.intro rfl ?_ | refine And.intro (fun _ => ?_) (fun h => Bool.noConfusion h) | refine And.intro (fun h => Bool.noConfusion h) (fun _ => ?_) | refine And.intro (fun _ => ?_) (fun h => absurd h (by rw [e1]; decide)) | refine And.intro (fun h => absurd h (by rw [e1]; decide)) (fun _ => ?_))
      have hpl := putAll_len (l.take j)
      have htl : (l.take j).length ≤ 1000 := by rw [List.length_take]; omega
      refine call_same (fn_vattach B c' n (lenN n) (lenN_ok hne) (by rw [hB]; have : (putAll (l.take j)).length ≤ 8 * (l.take j).length := hpl; omega) h3) [2] rfl (by (repeat first | exact trivial | refine ent1 ?_)) ?_ (fun _ _ => trivial) ?_
      · (repeat first | exact trivial | refine ent1 ?_)
      rintro x hs ⟨c2, hc2, rfl, rfl⟩
      have ep : putAll (l.take (j + 1)) = putAll (l.take j) ++ wideL n (lenN n) := by
        rw [take_succ hn, putAll_snoc]; rfl
      (repeat first | refine And.intro (by omega) ?_ | refine And.intro (by decide) ?_ | (with_reducible refine frc_parts (by first | omega | decide) ?_) | (with_reducible refine frc_bytesL (by first | omega | decide) ?_) | refine And.intro rfl ?_)
      refine ⟨some (j + 1, c2, B ++ wideL n (lenN n)), [0, 1, 3], ⟨⟨rfl, rfl, rfl⟩, ?_⟩, ⟨by omega, by omega, by simpa using hc2, by rw [ep, hB]⟩, by dsimp only; omega⟩
      (repeat first | exact trivial | refine ent1 ?_)
      exact ⟨fun j hj => eqC_numsS, by (repeat first | exact trivial | refine ent1 ?_)⟩
    · have hj : j = l.length := by have : ¬ (j : Int) < (l.length : Int) := of_decide_eq_false h; omega
      subst hj
      rw [List.take_length] at hB
      subst hB
      (repeat first | refine And.intro (by omega) ?_ | refine And.intro (by decide) ?_ | (with_reducible refine frc_parts (by first | omega | decide) ?_) | (with_reducible refine frc_bytesL (by first | omega | decide) ?_) | refine And.intro rfl ?_)
      refine ⟨.tup [], _, ⟨[0, 1, 2], ⟨rfl, rfl, rfl⟩, ?_⟩, c', h3, rfl, rfl⟩
      exact ⟨rfl, fun j hj => eqC_numsS, by (repeat first | exact trivial | refine ent1 ?_)⟩
end Sx
end Go.Proofs.Ytkjdkeolkigibaa
end

section
/-
  A number by its id, put into a writer: the closure of Params.Put. No condition.
-/
namespace Go.Proofs.Ytkjdkeolkigibaa
set_option linter.unusedVariables false
namespace Sx
open Sha Vi

/-- A number, by its id. -/
abbrev numL (id n : BitVec 64) : Bs := putAll [id, BitVec.ofInt 64 (lenN n : Int), n]
theorem lenN_small (n : BitVec 64) : lenN (BitVec.ofInt 64 (lenN n : Int)) ≠ 0 := by
  have := lenN_of (n := lenN n) (by have := lenN_le n; omega)
  exact this
theorem nums3 (a b c : BitVec 64) : ∀ (j : Nat) (x : BitVec 64), [a, b, c][j]? = some x → nthC [.w64 a, .w64 b, .w64 c] j = .w64 x
  | 0, x, h => by simp at h; subst h; rfl
  | 1, x, h => by simp at h; subst h; rfl
  | 2, x, h => by simp at h; subst h; rfl
  | j + 3, x, h => by simp at h
set_option maxRecDepth 20000 in
theorem fn_number0 (id n : BitVec 64) (h1 : lenN id ≠ 0) (h2 : lenN n ≠ 0) :
    Fn Try.prog tds 55 [wrN] [.c (.w64 id), .c (.w64 n), .c (.p 0 0 0)] (fun _ => True)
    (fun y hs => ∃ B c', B = numL id n ∧ B.length ≤ c' ∧ y = .tup [] ∧ hs = [wrC 1 B c', lsC B c']) := by
  refine fn_of_body tds_ok follows_ Try.func55 rfl (t := .a (.c (.w64 id)) :: .a (.c (.w64 n)) :: .a (.c (.p 0 0 0)) :: anys (Try.f55.ntmps - 3)) rfl (fun w r0 hr0 _ => ?_)
  obtain ⟨x0, rfl⟩ := List.length_eq_one_iff.1 hr0
  (repeat first | (refine And.intro ?_ ?_; first | exact rfl | ((exact fun h => absurd h (by first | decide)); intro yy; clear yy) | (rotate_left; (exact fun h => absurd h (by first | decide)); intro yy; clear yy) | decide | omega) | (with_reducible refine frc_bytesL (by first | omega | decide) ?_) | (with_reducible refine frc_bytesM (by first | omega | decide) ?_))
  refine call_same (fn_vlen n) [] rfl (by (repeat first | exact trivial | refine ent1 ?_)) trivial (fun _ _ => trivial) ?_
  rintro x hs ⟨rfl, rfl⟩
  (repeat first | (refine And.intro ?_ ?_; first | exact rfl | ((exact fun h => absurd h (by first | decide)); intro yy; clear yy) | (rotate_left; (exact fun h => absurd h (by first | decide)); intro yy; clear yy) | decide | omega) | (with_reducible refine frc_bytesL (by first | omega | decide) ?_) | (with_reducible refine frc_bytesM (by first | omega | decide) ?_))
  refine call_same (fn_wint0 [id, BitVec.ofInt 64 (lenN n : Int), n] 3 3 (by intro x hx; simp at hx; rcases hx with rfl | rfl | rfl; exact h1; exact lenN_small n; exact h2) (Nat.le_refl _) (by simp) (by simp)) [1, 0] rfl (by (repeat first | exact trivial | refine ent1 ?_)) ?_ (fun _ _ => trivial) ?_
  · (repeat first | exact trivial | refine ent1 ?_)
    refine ⟨fun j hj => eqC_nums (nums3 _ _ _) j, ?_⟩
    (repeat first | exact trivial | refine ent1 ?_)
  rintro x hs ⟨c', hc', rfl, rfl⟩
  (repeat first | (refine And.intro ?_ ?_; first | exact rfl | ((exact fun h => absurd h (by first | decide)); intro yy; clear yy) | (rotate_left; (exact fun h => absurd h (by first | decide)); intro yy; clear yy) | decide | omega) | (with_reducible refine frc_bytesL (by first | omega | decide) ?_) | (with_reducible refine frc_bytesM (by first | omega | decide) ?_))
  refine ⟨.tup [], _, ⟨[0, 2], ⟨rfl, rfl, rfl⟩, ?_⟩, _, c', rfl, hc', rfl, rfl⟩
  (repeat first | exact trivial | refine ent1 ?_)
set_option maxRecDepth 20000 in
theorem fn_number (id n : BitVec 64) (b : Bs) (c : Nat) (h1 : lenN id ≠ 0) (h2 : lenN n ≠ 0) (hb : b.length ≤ 500000) (hc : b.length ≤ c) :
    Fn Try.prog tds 55 [wrC 1 b c, lsC b c] [.c (.w64 id), .c (.w64 n), .c (.p 0 0 0)] (fun _ => True)
    (fun y hs => ∃ B c', B = b ++ numL id n ∧ B.length ≤ c' ∧ y = .tup [] ∧ hs = [wrC 2 B c', [], lsC B c']) := by
  refine fn_of_body tds_ok follows_ Try.func55 rfl (t := .a (.c (.w64 id)) :: .a (.c (.w64 n)) :: .a (.c (.p 0 0 0)) :: anys (Try.f55.ntmps - 3)) rfl (fun w r0 hr0 _ => ?_)
  obtain ⟨x0, x1, rfl⟩ := len2' hr0
  (repeat first | (refine And.intro ?_ ?_; first | exact rfl | ((exact fun h => absurd h (by first | decide)); intro yy; clear yy) | (rotate_left; (exact fun h => absurd h (by first | decide)); intro yy; clear yy) | decide | omega) | (with_reducible refine frc_bytesL (by first | omega | decide) ?_) | (with_reducible refine frc_bytesM (by first | omega | decide) ?_))
  refine call_same (fn_vlen n) [] rfl (by (repeat first | exact trivial | refine ent1 ?_)) trivial (fun _ _ => trivial) ?_
  rintro x hs ⟨rfl, rfl⟩
  (repeat first | (refine And.intro ?_ ?_; first | exact rfl | ((exact fun h => absurd h (by first | decide)); intro yy; clear yy) | (rotate_left; (exact fun h => absurd h (by first | decide)); intro yy; clear yy) | decide | omega) | (with_reducible refine frc_bytesL (by first | omega | decide) ?_) | (with_reducible refine frc_bytesM (by first | omega | decide) ?_))
  refine call_same (fn_wint [id, BitVec.ofInt 64 (lenN n : Int), n] 3 3 b c (by intro x hx; simp at hx; rcases hx with rfl | rfl | rfl; exact h1; exact lenN_small n; exact h2) (Nat.le_refl _) (by simp) hb hc) [2, 0, 1] rfl (by (repeat first | exact trivial | refine ent1 ?_)) ?_ (fun _ _ => trivial) ?_
  · (repeat first | exact trivial | refine ent1 ?_)
    refine ⟨fun j hj => eqC_nums (nums3 _ _ _) j, ?_⟩
    (repeat first | exact trivial | refine ent1 ?_)
  rintro x hs ⟨-, hk⟩
  obtain ⟨c', hc', rfl, rfl⟩ := hk (by simp)
  (repeat first | (refine And.intro ?_ ?_; first | exact rfl | ((exact fun h => absurd h (by first | decide)); intro yy; clear yy) | (rotate_left; (exact fun h => absurd h (by first | decide)); intro yy; clear yy) | decide | omega) | (with_reducible refine frc_bytesL (by first | omega | decide) ?_) | (with_reducible refine frc_bytesM (by first | omega | decide) ?_))
  refine ⟨.tup [], _, ⟨[0, 1, 3], ⟨rfl, rfl, rfl⟩, ?_⟩, _, c', rfl, hc', rfl, rfl⟩
  (repeat first | exact trivial | refine ent1 ?_)
end Sx
end Go.Proofs.Ytkjdkeolkigibaa
end

section
/-
  What an endpoint says, put as bytes. No condition.
-/
namespace Go.Proofs.Ytkjdkeolkigibaa
set_option linter.unusedVariables false
namespace Sx
open Sha Vi

def putP (p : Pm) : Bs := numL 1#64 p.a0 ++ numL 4#64 p.a1 ++ numL 5#64 p.a2 ++ numL 6#64 p.a3 ++ numL 7#64 p.a4 ++ numL 8#64 p.a5 ++ numL 9#64 p.a6 ++ numL 11#64 p.a7 ++ numL 14#64 p.a8 ++ putAll [15#64] ++ longL p.s.l
theorem numL_len (id n : BitVec 64) : (numL id n).length ≤ 24 := putAll_len [id, BitVec.ofInt 64 (lenN n : Int), n]
theorem one_len (n : BitVec 64) : (putAll [n]).length ≤ 8 := putAll_len [n]
theorem one_15 : (putAll [15#64]).length = 1 := by decide
theorem app_len {a b : Bs} {m n : Nat} (h1 : a.length ≤ m) (h2 : b.length ≤ n) : (a ++ b).length ≤ m + n := by rw [List.length_append]; omega
theorem nums1 (a : BitVec 64) : ∀ (j : Nat) (x : BitVec 64), [a][j]? = some x → nthC [.w64 a] j = .w64 x
  | 0, x, h => by simp at h; subst h; rfl
  | j + 1, x, h => by simp at h
theorem small_len {n : BitVec 64} (h : n ≤ 1073741824#64) : lenN n ≠ 0 := by
  unfold lenN
  have h1 : n.toNat ≤ 1073741824 := h
  split
  · decide
  split
  · decide
  split
  · decide
  split
  · decide
  · rename_i h2
    have h2 : ¬ n.toNat < 4611686018427387904 := h2
    omega
theorem m2_le {a b c : BitVec 64} (h : m2 a b ≤ c) : a ≤ c ∧ b ≤ c := by
  unfold m2 at h
  split at h
  · rename_i h1
    exact ⟨Nat.le_trans (Nat.le_of_lt h1) h, h⟩
  · rename_i h1
    exact ⟨h, Nat.le_trans (Nat.le_of_not_lt h1) h⟩
/-- What may be said: bounds. -/
theorem check_ok {p : Pm} (h : checkP p = 0) : p.a0.toNat ≤ 1073741824 ∧ (p.a1.toNat ≤ 65536 ∧ p.a2.toNat ≤ 65536 ∧ p.a3.toNat ≤ 65536 ∧ p.a4.toNat ≤ 65536) ∧ (p.a5.toNat ≤ 8 ∧ p.a6.toNat ≤ 8) ∧ p.a7.toNat < 16384 ∧ (2 ≤ p.a8.toNat ∧ p.a8.toNat ≤ 4) ∧ p.s.l.length ≤ 20 := by
  unfold checkP at h
  split at h
  · exact absurd h (by decide)
  rename_i h1
  split at h
  · exact absurd h (by decide)
  rename_i h2
  split at h
  · exact absurd h (by decide)
  rename_i h3
  split at h
  · exact absurd h (by decide)
  rename_i h4
  split at h
  · exact absurd h (by decide)
  rename_i h5
  split at h
  · exact absurd h (by decide)
  rename_i h6
  split at h
  · exact absurd h (by decide)
  rename_i h7
  split at h
  · exact absurd h (by decide)
  rename_i h8
  have h1 : m4 p.a1 p.a2 p.a3 p.a4 ≤ 65536#64 := Nat.le_of_not_lt h1
  obtain ⟨hx, q4⟩ := m2_le h1
  obtain ⟨hx, q3⟩ := m2_le hx
  obtain ⟨q1, q2⟩ := m2_le hx
  exact ⟨Nat.le_of_not_lt h2, ⟨q1, q2, q3, q4⟩, ⟨Nat.le_of_not_lt h4, Nat.le_of_not_lt h5⟩, Nat.lt_of_not_le h3, ⟨Nat.le_of_not_lt h6, Nat.le_of_not_lt h7⟩, by omega⟩
set_option maxRecDepth 20000 in
set_option maxHeartbeats 4000000 in
theorem fn_pput (p : Pm) (hp : p.s.Ok) : FnR Try.prog tds 23 1 [svB p.s] [.agg (pmC 0 p)] (fun _ => True)
    (fun y hs => ∃ t : Sl, t.Ok ∧ (checkP p = 0 → t.l = putP p) ∧ y = .tup [.c (svC 1 t), .c (.int .i64 (checkP p))] ∧ hs = [svB p.s, svB t]) := by
  refine fn_of_body tds_ok follows_ Try.func23 rfl (t := .a (.agg (pmC 0 p)) :: anys (Try.f23.ntmps - 1)) rfl (fun w r0 hr _ => ?_)
  obtain ⟨x0, rfl⟩ := List.length_eq_one_iff.1 hr
  (repeat first | (refine And.intro ?_ ?_; first | exact rfl | ((exact fun h => absurd h (by first | decide)); intro yy; clear yy) | (rotate_left; (exact fun h => absurd h (by first | decide)); intro yy; clear yy) | decide | omega) | (with_reducible refine frc_bytesL (by first | omega | decide) ?_) | (with_reducible refine frc_bytesM (by first | omega | decide) ?_))
  refine call_same (fn_pmcheck p) [0] rfl (by (repeat first | exact trivial | refine ent1 ?_)) (by refine eqC_bts ?_; (repeat first | exact trivial | refine ent1 ?_)) (fun _ _ => trivial) ?_
  rintro x hs' ⟨rfl, rfl⟩
  by_cases hc : checkP p = 0
  rotate_left
  · have k0 : decide (checkP p ≠ 0) = true := decide_eq_true hc
    (repeat first | (refine And.intro ?_ ?_; first | exact rfl | ((exact fun h => absurd h (by first | decide | (rw [k0]; decide))); intro yy; clear yy) | (rotate_left; (exact fun h => absurd h (by first | decide | (rw [k0]; decide))); intro yy; clear yy) | decide | omega) | (with_reducible refine frc_bytesL (by first | omega | decide) ?_) | (with_reducible refine frc_bytesM (by first | omega | decide) ?_))
    (repeat first | refine And.intro (by omega) ?_ | refine And.intro (by decide) ?_ | (with_reducible refine frc_parts (by first | omega | decide) ?_) | (with_reducible refine frc_bytesL (by first | omega | decide) ?_) | refine And.intro rfl ?_)
    refine ⟨.tup [.c (svC 1 ⟨true, 0, 0, 0, []⟩), .c (.int .i64 (checkP p))], _, ⟨[0, 1], ⟨rfl, rfl, rfl⟩, ?_⟩, ⟨true, 0, 0, 0, []⟩, nil_ok, fun h => absurd h hc, rfl, rfl⟩
    (repeat first | exact trivial | refine ent1 ?_)
    refine eqC_bts ?_
    (repeat first | exact trivial | refine ent1 ?_)
  have hb := check_ok hc
  have l0 : lenN p.a0 ≠ 0 := small_len (by have := hb.1; show p.a0.toNat ≤ 1073741824; omega)
  have l1 : lenN p.a1 ≠ 0 := small_len (by have := hb.2.1.1; show p.a1.toNat ≤ 1073741824; omega)
  have l2 : lenN p.a2 ≠ 0 := small_len (by have := hb.2.1.2.1; show p.a2.toNat ≤ 1073741824; omega)
  have l3 : lenN p.a3 ≠ 0 := small_len (by have := hb.2.1.2.2.1; show p.a3.toNat ≤ 1073741824; omega)
  have l4 : lenN p.a4 ≠ 0 := small_len (by have := hb.2.1.2.2.2; show p.a4.toNat ≤ 1073741824; omega)
  have l5 : lenN p.a5 ≠ 0 := small_len (by have := hb.2.2.1.1; show p.a5.toNat ≤ 1073741824; omega)
  have l6 : lenN p.a6 ≠ 0 := small_len (by have := hb.2.2.1.2; show p.a6.toNat ≤ 1073741824; omega)
  have l7 : lenN p.a7 ≠ 0 := small_len (by have := hb.2.2.2.1; show p.a7.toNat ≤ 1073741824; omega)
  have l8 : lenN p.a8 ≠ 0 := small_len (by have := hb.2.2.2.2.1.2; show p.a8.toNat ≤ 1073741824; omega)
  have hs20 := hb.2.2.2.2.2
  clear hb
  have k0 : decide (checkP p ≠ 0) = false := decide_eq_false (by omega)
  (repeat first | (refine And.intro ?_ ?_; first | exact rfl | ((exact fun h => absurd h (by first | decide | (rw [k0]; decide))); intro yy; clear yy) | (rotate_left; (exact fun h => absurd h (by first | decide | (rw [k0]; decide))); intro yy; clear yy) | decide | omega) | (with_reducible refine frc_bytesL (by first | omega | decide) ?_) | (with_reducible refine frc_bytesM (by first | omega | decide) ?_))
  (repeat first | (refine And.intro ?_ ?_; first | exact rfl | ((exact fun h => absurd h (by first | decide)); intro yy; clear yy) | (rotate_left; (exact fun h => absurd h (by first | decide)); intro yy; clear yy) | decide | omega) | (with_reducible refine frc_bytesL (by first | omega | decide) ?_) | (with_reducible refine frc_bytesM (by first | omega | decide) ?_))
  refine call_same (fn_number0 1#64 p.a0 (by decide) l0) [2] rfl (by (repeat first | exact trivial | refine ent1 ?_)) (by (repeat first | exact trivial | refine ent1 ?_)) (fun _ _ => trivial) ?_
  rintro x hs' ⟨B0, c0, hB0, hc0, rfl, rfl⟩
  have q0 : B0.length ≤ 24 := by rw [hB0]; exact numL_len _ _
  (repeat first | (refine And.intro ?_ ?_; first | exact rfl | ((exact fun h => absurd h (by first | decide)); intro yy; clear yy) | (rotate_left; (exact fun h => absurd h (by first | decide)); intro yy; clear yy) | decide | omega) | (with_reducible refine frc_bytesL (by first | omega | decide) ?_) | (with_reducible refine frc_bytesM (by first | omega | decide) ?_))
  refine call_same (fn_number 4#64 p.a1 B0 c0 (by decide) l1 (Nat.le_trans q0 (by decide)) hc0) [2, 3] rfl (by (repeat first | exact trivial | refine ent1 ?_)) (by (repeat first | exact trivial | refine ent1 ?_)) (fun _ _ => trivial) ?_
  rintro x hs' ⟨B1, c1, hB1, hc1, rfl, rfl⟩
  have q1 : B1.length ≤ 48 := by rw [hB1]; exact app_len q0 (numL_len _ _)
  (repeat first | (refine And.intro ?_ ?_; first | exact rfl | ((exact fun h => absurd h (by first | decide)); intro yy; clear yy) | (rotate_left; (exact fun h => absurd h (by first | decide)); intro yy; clear yy) | decide | omega) | (with_reducible refine frc_bytesL (by first | omega | decide) ?_) | (with_reducible refine frc_bytesM (by first | omega | decide) ?_))
  refine call_same (fn_number 5#64 p.a2 B1 c1 (by decide) l2 (Nat.le_trans q1 (by decide)) hc1) [2, 4] rfl (by (repeat first | exact trivial | refine ent1 ?_)) (by (repeat first | exact trivial | refine ent1 ?_)) (fun _ _ => trivial) ?_
  rintro x hs' ⟨B2, c2, hB2, hc2, rfl, rfl⟩
  have q2 : B2.length ≤ 72 := by rw [hB2]; exact app_len q1 (numL_len _ _)
  (repeat first | (refine And.intro ?_ ?_; first | exact rfl | ((exact fun h => absurd h (by first | decide)); intro yy; clear yy) | (rotate_left; (exact fun h => absurd h (by first | decide)); intro yy; clear yy) | decide | omega) | (with_reducible refine frc_bytesL (by first | omega | decide) ?_) | (with_reducible refine frc_bytesM (by first | omega | decide) ?_))
  refine call_same (fn_number 6#64 p.a3 B2 c2 (by decide) l3 (Nat.le_trans q2 (by decide)) hc2) [2, 5] rfl (by (repeat first | exact trivial | refine ent1 ?_)) (by (repeat first | exact trivial | refine ent1 ?_)) (fun _ _ => trivial) ?_
  rintro x hs' ⟨B3, c3, hB3, hc3, rfl, rfl⟩
  have q3 : B3.length ≤ 96 := by rw [hB3]; exact app_len q2 (numL_len _ _)
  (repeat first | (refine And.intro ?_ ?_; first | exact rfl | ((exact fun h => absurd h (by first | decide)); intro yy; clear yy) | (rotate_left; (exact fun h => absurd h (by first | decide)); intro yy; clear yy) | decide | omega) | (with_reducible refine frc_bytesL (by first | omega | decide) ?_) | (with_reducible refine frc_bytesM (by first | omega | decide) ?_))
  refine call_same (fn_number 7#64 p.a4 B3 c3 (by decide) l4 (Nat.le_trans q3 (by decide)) hc3) [2, 6] rfl (by (repeat first | exact trivial | refine ent1 ?_)) (by (repeat first | exact trivial | refine ent1 ?_)) (fun _ _ => trivial) ?_
  rintro x hs' ⟨B4, c4, hB4, hc4, rfl, rfl⟩
  have q4 : B4.length ≤ 120 := by rw [hB4]; exact app_len q3 (numL_len _ _)
  (repeat first | (refine And.intro ?_ ?_; first | exact rfl | ((exact fun h => absurd h (by first | decide)); intro yy; clear yy) | (rotate_left; (exact fun h => absurd h (by first | decide)); intro yy; clear yy) | decide | omega) | (with_reducible refine frc_bytesL (by first | omega | decide) ?_) | (with_reducible refine frc_bytesM (by first | omega | decide) ?_))
  refine call_same (fn_number 8#64 p.a5 B4 c4 (by decide) l5 (Nat.le_trans q4 (by decide)) hc4) [2, 7] rfl (by (repeat first | exact trivial | refine ent1 ?_)) (by (repeat first | exact trivial | refine ent1 ?_)) (fun _ _ => trivial) ?_
  rintro x hs' ⟨B5, c5, hB5, hc5, rfl, rfl⟩
  have q5 : B5.length ≤ 144 := by rw [hB5]; exact app_len q4 (numL_len _ _)
  (repeat first | (refine And.intro ?_ ?_; first | exact rfl | ((exact fun h => absurd h (by first | decide)); intro yy; clear yy) | (rotate_left; (exact fun h => absurd h (by first | decide)); intro yy; clear yy) | decide | omega) | (with_reducible refine frc_bytesL (by first | omega | decide) ?_) | (with_reducible refine frc_bytesM (by first | omega | decide) ?_))
  refine call_same (fn_number 9#64 p.a6 B5 c5 (by decide) l6 (Nat.le_trans q5 (by decide)) hc5) [2, 8] rfl (by (repeat first | exact trivial | refine ent1 ?_)) (by (repeat first | exact trivial | refine ent1 ?_)) (fun _ _ => trivial) ?_
  rintro x hs' ⟨B6, c6, hB6, hc6, rfl, rfl⟩
  have q6 : B6.length ≤ 168 := by rw [hB6]; exact app_len q5 (numL_len _ _)
  (repeat first | (refine And.intro ?_ ?_; first | exact rfl | ((exact fun h => absurd h (by first | decide)); intro yy; clear yy) | (rotate_left; (exact fun h => absurd h (by first | decide)); intro yy; clear yy) | decide | omega) | (with_reducible refine frc_bytesL (by first | omega | decide) ?_) | (with_reducible refine frc_bytesM (by first | omega | decide) ?_))
  refine call_same (fn_number 11#64 p.a7 B6 c6 (by decide) l7 (Nat.le_trans q6 (by decide)) hc6) [2, 9] rfl (by (repeat first | exact trivial | refine ent1 ?_)) (by (repeat first | exact trivial | refine ent1 ?_)) (fun _ _ => trivial) ?_
  rintro x hs' ⟨B7, c7, hB7, hc7, rfl, rfl⟩
  have q7 : B7.length ≤ 192 := by rw [hB7]; exact app_len q6 (numL_len _ _)
  (repeat first | (refine And.intro ?_ ?_; first | exact rfl | ((exact fun h => absurd h (by first | decide)); intro yy; clear yy) | (rotate_left; (exact fun h => absurd h (by first | decide)); intro yy; clear yy) | decide | omega) | (with_reducible refine frc_bytesL (by first | omega | decide) ?_) | (with_reducible refine frc_bytesM (by first | omega | decide) ?_))
  refine call_same (fn_number 14#64 p.a8 B7 c7 (by decide) l8 (Nat.le_trans q7 (by decide)) hc7) [2, 10] rfl (by (repeat first | exact trivial | refine ent1 ?_)) (by (repeat first | exact trivial | refine ent1 ?_)) (fun _ _ => trivial) ?_
  rintro x hs' ⟨B8, c8, hB8, hc8, rfl, rfl⟩
  have q8 : B8.length ≤ 216 := by rw [hB8]; exact app_len q7 (numL_len _ _)
  (repeat first | (refine And.intro ?_ ?_; first | exact rfl | ((exact fun h => absurd h (by first | decide)); intro yy; clear yy) | (rotate_left; (exact fun h => absurd h (by first | decide)); intro yy; clear yy) | decide | omega) | (with_reducible refine frc_bytesL (by first | omega | decide) ?_) | (with_reducible refine frc_bytesM (by first | omega | decide) ?_))
  refine call_same (fn_wint [15#64] 1 1 B8 c8 (by intro x hx; simp at hx; subst hx; decide) (Nat.le_refl _) (by simp) (Nat.le_trans q8 (by decide)) hc8) [12, 2, 11] rfl (by (repeat first | exact trivial | refine ent1 ?_)) ?_ (fun _ _ => trivial) ?_
  · (repeat first | exact trivial | refine ent1 ?_)
    refine ⟨fun j hj => eqC_nums (nums1 _) j, ?_⟩
    (repeat first | exact trivial | refine ent1 ?_)
  rintro x hs' ⟨-, hk⟩
  obtain ⟨c9, hc9, rfl, rfl⟩ := hk (by simp)
  have q9 : (B8 ++ putAll [15#64]).length ≤ 216 + 8 := app_len q8 (one_len 15#64)
  have z9 : 0 < (B8 ++ putAll [15#64]).length := by rw [List.length_append, one_15]; omega
  generalize hB9 : B8 ++ putAll [15#64] = B9 at hc9 q9 z9 ⊢
  (repeat first | (refine And.intro ?_ ?_; first | exact rfl | ((exact fun h => absurd h (by first | decide)); intro yy; clear yy) | (rotate_left; (exact fun h => absurd h (by first | decide)); intro yy; clear yy) | decide | omega) | (with_reducible refine frc_bytesL (by first | omega | decide) ?_) | (with_reducible refine frc_bytesM (by first | omega | decide) ?_))
  refine call_same (fn_wlong p.s hp B9 c9 (Nat.le_trans q9 (by decide)) hc9) [0, 2, 13] rfl (by (repeat first | exact trivial | refine ent1 ?_)) ?_ (fun _ _ => trivial) ?_
  · refine eqC_bts ?_
    (repeat first | exact trivial | refine ent1 ?_)
  rintro x hs' ⟨c10, hc10, rfl, rfl⟩
  have q10 : (B9 ++ longL p.s.l).length ≤ 216 + 8 + (8 + p.s.l.length) := app_len q9 (longL_len p.s.l)
  have z10 : 0 < (B9 ++ longL p.s.l).length := by rw [List.length_append]; omega
  generalize hB10 : B9 ++ longL p.s.l = B10 at hc10 q10 z10 ⊢
  (repeat first | (refine And.intro ?_ ?_; first | exact rfl | ((exact fun h => absurd h (by first | decide)); intro yy; clear yy) | (rotate_left; (exact fun h => absurd h (by first | decide)); intro yy; clear yy) | decide | omega) | (with_reducible refine frc_bytesL (by first | omega | decide) ?_) | (with_reducible refine frc_bytesM (by first | omega | decide) ?_))
  have hP : putP p = B10 := by rw [← hB10, ← hB9, hB8, hB7, hB6, hB5, hB4, hB3, hB2, hB1, hB0]; rfl
  refine call_same (fn_wdone B10 c10 (by omega) hc10 z10) [2, 14] rfl (by (repeat first | exact trivial | refine ent1 ?_)) (by (repeat first | exact trivial | refine ent1 ?_)) (fun _ _ => trivial) ?_
  rintro x hs' ⟨c11, hc11, rfl, rfl⟩
  (repeat first | (refine And.intro ?_ ?_; first | exact rfl | ((exact fun h => absurd h (by first | decide)); intro yy; clear yy) | (rotate_left; (exact fun h => absurd h (by first | decide)); intro yy; clear yy) | decide | omega) | (with_reducible refine frc_bytesL (by first | omega | decide) ?_) | (with_reducible refine frc_bytesM (by first | omega | decide) ?_))
  rw [hc, hP]
  refine ⟨.tup [.c (svC 1 ⟨false, c11, 0, c11, B10⟩), .c (.int .i64 0)], _, ⟨[0, 15], ⟨rfl, rfl, rfl⟩, ?_⟩, ⟨false, c11, 0, c11, B10⟩, own_ok hc11 (by omega), fun _ => rfl, rfl, rfl⟩
  (repeat first | exact trivial | refine ent1 ?_)
  refine eqC_bts ?_
  (repeat first | exact trivial | refine ent1 ?_)
  refine ⟨fun j hj => eqC_winBM (Nat.le_refl _), ?_⟩
  (repeat first | exact trivial | refine ent1 ?_)
end Sx
end Go.Proofs.Ytkjdkeolkigibaa
end

section
/-
  What an endpoint says, put as bytes, is taken back: plain. No condition.
-/
namespace Go.Proofs.Ytkjdkeolkigibaa
set_option linter.unusedVariables false
namespace Vi
open Sha Sx

theorem nx_put {n : BitVec 64} (h0 : lenN n ≠ 0) (r : Bs) : nextM (putL n ++ r) 0 = ((n, lenN n, true), r, 0) := by
  obtain ⟨a, b⟩ := take_wide (lenN_ok h0) h0 (Nat.le_refl _) r
  have ht : takeM (wideL n (lenN n) ++ r) = (n, lenN n, 0) := by
    unfold takeM
    rw [if_neg, a, b]
    simp only [List.length_append, wideL_len, a]
    omega
  unfold putL nextM
  rw [if_neg (by decide), ht]
  simp
theorem lg_put {v : Bs} {m : Nat} (hv : v.length ≤ m) (hm : m ≤ 1000000) (r : Bs) : longM (longL v ++ r) 0 m = (v, r, 0) := by
  have h1 : (BitVec.ofNat 64 v.length).toNat = v.length := by rw [BitVec.toNat_ofNat]; omega
  have h2 : lenN (BitVec.ofNat 64 v.length) ≠ 0 := by
    have := lenN_spec (BitVec.ofNat 64 v.length)
    omega
  unfold longM countM longL
  rw [List.append_assoc, nx_put h2]
  simp only [h1]
  rw [if_neg (by decide), if_neg (by omega)]
  unfold bytesM
  rw [if_neg (fun h => h rfl), if_neg (by rw [List.length_append]; omega)]
  simp
theorem putK_new {k v : BitVec 64} : ∀ {D : Said}, hasK k D = false → putK k v D = D ++ [(k, v)]
  | [], _ => rfl
  | x :: D, h => by
    simp only [hasK, Bool.or_eq_false_iff, decide_eq_false_iff_not] at h
    simp only [putK]
    rw [if_neg h.1, putK_new h.2]; rfl
theorem putK_two {k u v : BitVec 64} : ∀ {D : Said}, putK k v (putK k u D) = putK k v D
  | [] => by simp [putK]
  | x :: D => by
    simp only [putK]
    split
    · simp [putK]
    · rename_i h
      simp only [putK]
      rw [if_neg h, putK_two]
theorem own_num {id n : BitVec 64} {D : Said} (h : numId id = true) (h0 : lenN n ≠ 0) : ownM id (putL n) D = (0, putK id n (putK id 0#64 D)) := by
  unfold ownM
  rw [h]
  have := nx_put h0 []
  rw [List.append_nil] at this
  simp only [this]
  rfl
/-- Two that say the same. -/
def sameP (p q : Pm) : Prop := p.a0 = q.a0 ∧ p.a1 = q.a1 ∧ p.a2 = q.a2 ∧ p.a3 = q.a3 ∧ p.a4 = q.a4 ∧ p.a5 = q.a5 ∧ p.a6 = q.a6 ∧ p.a7 = q.a7 ∧ p.a8 = q.a8 ∧ p.s.l = q.s.l
theorem sameP.check {p q : Pm} (h : sameP p q) : checkP p = checkP q := by
  obtain ⟨h0, h1, h2, h3, h4, h5, h6, h7, h8, h9⟩ := h
  unfold checkP
  rw [h0, h1, h2, h3, h4, h5, h6, h7, h8, h9]
theorem sameP.put {p q : Pm} (h : sameP p q) : putP p = putP q := by
  obtain ⟨h0, h1, h2, h3, h4, h5, h6, h7, h8, h9⟩ := h
  unfold putP
  rw [h0, h1, h2, h3, h4, h5, h6, h7, h8, h9]
end Vi
end Go.Proofs.Ytkjdkeolkigibaa
end

section
/-
  Things that are said in any order: plain. No condition.
-/
namespace Go.Proofs.Ytkjdkeolkigibaa
set_option linter.unusedVariables false
namespace Vi
open Sha Sx

/-- A thing that is said. -/
structure It where
  id : BitVec 64
  v : Bs
def joinI : List It → Bs
  | [] => []
  | x :: r => putL x.id ++ (longL x.v ++ joinI r)
theorem joinI_app : ∀ (l m : List It), joinI (l ++ m) = joinI l ++ joinI m
  | [], m => rfl
  | x :: r, m => by rw [List.cons_append, joinI, joinI, joinI_app r m, List.append_assoc, List.append_assoc]
/-- What is remembered of it. -/
def valI (x : It) : BitVec 64 := if numId x.id = true then (nextM x.v 0).1.1 else 0#64
abbrev kvI (x : It) : BitVec 64 × BitVec 64 := (x.id, valI x)
structure ItOk (m : Nat) (x : It) : Prop where
  id : lenN x.id ≠ 0
  len : x.v.length ≤ m
  num : numId x.id = true → ∃ n, x.v = putL n ∧ lenN n ≠ 0
def srcI : Bs → List It → Bs
  | src, [] => src
  | src, x :: r => srcI (if x.id = 15#64 then x.v else src) r
theorem one_item {m : Nat} {x : It} {D : Said} {src : Bs} (h : ItOk m x) (hm : m ≤ 1000000) (hk : hasK x.id D = false) (r : Bs) :
    oneP m (putL x.id ++ (longL x.v ++ r)) D src = (0, r, D ++ [kvI x], if x.id = 15#64 then x.v else src) := by
  have ho : ownM x.id x.v D = (0, D ++ [kvI x]) := by
    cases hn : numId x.id with
    | true =>
      obtain ⟨n, hv, h0⟩ := h.num hn
      have hx : kvI x = (x.id, n) := by
        show (x.id, valI x) = _
        unfold valI
        rw [if_pos hn, hv]
        have := nx_put h0 []
        rw [List.append_nil] at this
        rw [this]
      rw [hv, own_num hn h0, putK_two, putK_new hk, hx]
    | false =>
      have hx : kvI x = (x.id, 0#64) := by
        show (x.id, valI x) = _
        unfold valI
        rw [if_neg (by rw [hn]; decide)]
      unfold ownM
      rw [hn, putK_new hk, hx]
  rw [oneP_ok (nx_put h.id _) (lg_put h.len hm r) rfl hk ho]
theorem hasK_app {k : BitVec 64} : ∀ {D E : Said}, hasK k (D ++ E) = (hasK k D || hasK k E)
  | [], E => by simp [hasK]
  | x :: D, E => by rw [List.cons_append, hasK, hasK, hasK_app, Bool.or_assoc]
theorem hasK_map {k : BitVec 64} : ∀ {l : List It}, hasK k (l.map kvI) = true ↔ ∃ x ∈ l, x.id = k
  | [] => by simp [hasK]
  | x :: r => by
    rw [List.map_cons, hasK, Bool.or_eq_true, decide_eq_true_eq, hasK_map (l := r)]
    simp only [List.mem_cons, exists_eq_or_imp]
    exact ⟨fun h => h.imp Eq.symm id, fun h => h.imp Eq.symm id⟩
theorem joinI_pos {x : It} {r : List It} {m : Nat} (h : ItOk m x) : (joinI r).length < (joinI (x :: r)).length := by
  rw [joinI, List.length_append, List.length_append, putL_len]
  have := h.id
  omega
theorem joinI_len : ∀ {l : List It} {m : Nat}, (∀ x ∈ l, ItOk m x) → l.length ≤ (joinI l).length
  | [], _, _ => Nat.le_refl _
  | x :: r, m, h => by
    have h1 := joinI_len (l := r) (m := m) fun y hy => h y (List.mem_cons_of_mem _ hy)
    have h2 := joinI_pos (r := r) (h x (List.mem_cons_self ..))
    rw [List.length_cons]; omega
/-- All of them, one by one; what is left. -/
theorem all_items {m : Nat} (hm : m ≤ 1000000) : ∀ {l : List It} {D : Said} {src : Bs} {f : Nat} (r : Bs), (∀ x ∈ l, ItOk m x) → (l.map It.id).Nodup → (∀ x ∈ l, hasK x.id D = false) →
    allP m (f + l.length) (joinI l ++ r) D src = allP m f r (D ++ l.map kvI) (srcI src l)
  | [], D, src, f, r, _, _, _ => by rw [List.map_nil, List.append_nil]; rfl
  | x :: t, D, src, f, r, h, hn, hd => by
    have hx := h x (List.mem_cons_self ..)
    rw [List.map_cons, List.nodup_cons] at hn
    have h1 := one_item (D := D) (src := src) hx hm (hd x (List.mem_cons_self ..)) (joinI t ++ r)
    rw [joinI, List.append_assoc, List.append_assoc, List.length_cons, show f + (t.length + 1) = (f + t.length) + 1 by omega,
      allP_step (by rw [List.length_append, putL_len]; have := hx.id; omega) h1,
      all_items hm (l := t) r (fun y hy => h y (List.mem_cons_of_mem _ hy)) hn.2 (fun y hy => by
        rw [hasK_app, hd y (List.mem_cons_of_mem _ hy)]
        simp only [hasK, Bool.false_or, Bool.or_false, decide_eq_false_iff_not]
        intro hc
        exact hn.1 (hc ▸ List.mem_map_of_mem hy))]
    rw [List.map_cons, List.append_assoc]
    rfl
theorem all_all {l : List It} {m : Nat} (hm : m ≤ 1000000) (hl : (joinI l).length = m) (h : ∀ x ∈ l, ItOk m x) (hn : (l.map It.id).Nodup) : allP m m (joinI l) [] [] = (0, l.map kvI, srcI [] l) := by
  have h1 := joinI_len h
  obtain ⟨f, hf⟩ : ∃ f, m = f + l.length := ⟨m - l.length, by omega⟩
  have := all_items (m := m) (D := []) (src := []) (f := f) hm [] h hn (fun _ _ => rfl)
  rw [List.append_nil, ← hf, List.nil_append, allP_end] at this
  exact this
/-- One of them again. -/
theorem all_twice {l : List It} {y : It} {m : Nat} (hm : m ≤ 1000000) (hl : (joinI (l ++ [y])).length = m) (h : ∀ x ∈ l, ItOk m x) (hy : ItOk m y) (hn : (l.map It.id).Nodup) (hyl : ∃ x ∈ l, x.id = y.id) : (allP m m (joinI (l ++ [y])) [] []).1 = 18 := by
  have h1 := joinI_len h
  rw [joinI_app, List.length_append] at hl
  have h2 := joinI_pos (r := []) hy
  have h3 : (joinI []).length = 0 := rfl
  obtain ⟨f, hf⟩ : ∃ f, m = (f + 1) + l.length := ⟨m - l.length - 1, by omega⟩
  have := all_items (m := m) (D := []) (src := []) (f := f + 1) hm (joinI [y]) h hn (fun _ _ => rfl)
  rw [← hf, List.nil_append] at this
  rw [joinI_app, this]
  have hk : hasK y.id (l.map kvI) = true := hasK_map.2 hyl
  have h4 : oneP m (joinI [y]) (l.map kvI) (srcI [] l) = (18, [], l.map kvI, srcI [] l) := by
    rw [joinI]
    exact oneP_two (nx_put hy.id _) (lg_put hy.len hm _) rfl hk
  rw [allP_bad (by omega) h4 (by decide)]
theorem take_twice {l : List It} {y : It} {p : Pm} {e : Int} (hm : (joinI (l ++ [y])).length ≤ 1000000) (h : ∀ x ∈ l, ItOk (joinI (l ++ [y])).length x) (hy : ItOk (joinI (l ++ [y])).length y) (hn : (l.map It.id).Nodup) (hyl : ∃ x ∈ l, x.id = y.id)
    (ht : takeP (joinI (l ++ [y])) e p) : e = 18 := by
  have := all_twice hm rfl h hy hn hyl
  unfold takeP at ht
  split at ht
  rename_i f D src heq
  rw [heq] at this
  dsimp only at this
  subst this
  exact (ht.1 (by decide)).1
/-- None that says where it comes from. -/
theorem take_none {l : List It} {p : Pm} {e : Int} (hm : (joinI l).length ≤ 1000000) (h : ∀ x ∈ l, ItOk (joinI l).length x) (hn : (l.map It.id).Nodup) (h15 : ∀ x ∈ l, x.id ≠ 15#64) (ht : takeP (joinI l) e p) : e = 17 := by
  unfold takeP at ht
  rw [all_all hm rfl h hn] at ht
  refine ((ht.2 rfl).1 ?_).1
  cases hk : hasK 15#64 (l.map kvI) with
  | false => rfl
  | true =>
    obtain ⟨x, hx, hc⟩ := hasK_map.1 hk
    exact absurd hc (h15 x hx)
theorem lookK_mem {k : BitVec 64} {d v : BitVec 64} : ∀ {D : Said}, (D.map (·.1)).Nodup → (k, v) ∈ D → lookK k d D = v
  | [], _, h => by cases h
  | x :: D, hn, h => by
    rw [List.map_cons, List.nodup_cons] at hn
    rw [lookK]
    rcases List.mem_cons.1 h with rfl | h
    · rw [if_pos rfl]
    · rw [if_neg (fun hc => hn.1 (by rw [← hc]; exact List.mem_map_of_mem (f := (·.1)) h)), lookK_mem hn.2 h]
theorem lookK_none {k : BitVec 64} {d : BitVec 64} : ∀ {D : Said}, hasK k D = false → lookK k d D = d
  | [], _ => rfl
  | x :: D, h => by
    simp only [hasK, Bool.or_eq_false_iff, decide_eq_false_iff_not] at h
    rw [lookK, if_neg h.1, lookK_none h.2]
theorem hasK_mem {k : BitVec 64} : ∀ {D : Said}, hasK k D = true ↔ ∃ v, (k, v) ∈ D
  | [] => by simp [hasK]
  | x :: D => by
    rw [hasK, Bool.or_eq_true, decide_eq_true_eq, hasK_mem (D := D)]
    constructor
    · rintro (rfl | ⟨v, hv⟩)
      · exact ⟨x.2, List.mem_cons_self ..⟩
      · exact ⟨v, List.mem_cons_of_mem _ hv⟩
    · rintro ⟨v, hv⟩
      rcases List.mem_cons.1 hv with h | h
      · exact .inl (congrArg (·.1) h)
      · exact .inr ⟨v, h⟩
theorem hasK_perm {k : BitVec 64} {D E : Said} (h : D.Perm E) : hasK k D = hasK k E := by
  cases hE : hasK k E with
  | true =>
    obtain ⟨v, hv⟩ := hasK_mem.1 hE
    exact hasK_mem.2 ⟨v, h.mem_iff.2 hv⟩
  | false =>
    cases hD : hasK k D with
    | false => rfl
    | true =>
      obtain ⟨v, hv⟩ := hasK_mem.1 hD
      rw [hasK_mem.2 ⟨v, h.mem_iff.1 hv⟩] at hE
      cases hE
theorem lookK_perm {k d : BitVec 64} {D E : Said} (h : D.Perm E) (hn : (E.map (·.1)).Nodup) : lookK k d D = lookK k d E := by
  cases hE : hasK k E with
  | true =>
    obtain ⟨v, hv⟩ := hasK_mem.1 hE
    rw [lookK_mem hn hv, lookK_mem ((h.map (·.1)).nodup_iff.2 hn) (h.mem_iff.2 hv)]
  | false => rw [lookK_none hE, lookK_none (by rw [hasK_perm h]; exact hE)]
theorem srcI_none : ∀ {l : List It} {src : Bs}, (∀ x ∈ l, x.id ≠ 15#64) → srcI src l = src
  | [], _, _ => rfl
  | x :: r, src, h => by rw [srcI, if_neg (h x (List.mem_cons_self ..)), srcI_none fun y hy => h y (List.mem_cons_of_mem _ hy)]
theorem srcI_mem : ∀ {l : List It} {src v : Bs}, (l.map It.id).Nodup → (⟨15#64, v⟩ : It) ∈ l → srcI src l = v
  | [], _, _, _, h => by cases h
  | x :: r, src, v, hn, h => by
    rw [List.map_cons, List.nodup_cons] at hn
    rw [srcI]
    rcases List.mem_cons.1 h with rfl | h
    · rw [if_pos rfl]
      exact srcI_none fun y hy hc => hn.1 (by show (15#64 : BitVec 64) ∈ _; rw [← hc]; exact List.mem_map_of_mem hy)
    · exact srcI_mem hn.2 h
end Vi
end Go.Proofs.Ytkjdkeolkigibaa
end

section
/-
  The law ParamOrder's things, in any order: plain. No condition.
-/
namespace Go.Proofs.Ytkjdkeolkigibaa
set_option linter.unusedVariables false
namespace Vi
open Sha Sx

def idI : Nat → BitVec 64
  | 0 => 1#64
  | 1 => 4#64
  | 2 => 5#64
  | 3 => 6#64
  | 4 => 7#64
  | 5 => 8#64
  | 6 => 9#64
  | 7 => 11#64
  | _ => 14#64
/-- Those that aren't left out. -/
def itemsK (b : Nat → Bool) (n : Nat → BitVec 64) : Nat → List It
  | 0 => []
  | k + 1 => itemsK b n k ++ (if b k = true then [⟨idI k, putL (n k)⟩] else [])
def items0 (b : Nat → Bool) (n : Nat → BitVec 64) (src : Bs) (id : BitVec 64) (other : Bs) : List It := itemsK b n 9 ++ [⟨15#64, src⟩, ⟨100#64 + id, other⟩]
theorem mem_itemsK {b : Nat → Bool} {n : Nat → BitVec 64} {x : It} : ∀ {k : Nat}, x ∈ itemsK b n k ↔ ∃ j, j < k ∧ b j = true ∧ x = ⟨idI j, putL (n j)⟩
  | 0 => by simp [itemsK]
  | k + 1 => by
    rw [itemsK, List.mem_append, mem_itemsK (k := k)]
    constructor
    · rintro (⟨j, h1, h2, h3⟩ | h)
      · exact ⟨j, by omega, h2, h3⟩
      · cases hb : b k with
        | true => rw [if_pos hb] at h; simp at h; exact ⟨k, by omega, hb, h⟩
        | false => rw [if_neg (by rw [hb]; decide)] at h; cases h
    · rintro ⟨j, h1, h2, h3⟩
      rcases Nat.lt_or_ge j k with h | h
      · exact .inl ⟨j, h, h2, h3⟩
      · obtain rfl : j = k := by omega
        rw [if_pos h2]
        exact .inr (by simp [h3])
theorem idI_inj {i j : Nat} (hi : i < 9) (hj : j < 9) (h : idI i = idI j) : i = j := by
  have hi : i = 0 ∨ i = 1 ∨ i = 2 ∨ i = 3 ∨ i = 4 ∨ i = 5 ∨ i = 6 ∨ i = 7 ∨ i = 8 := by omega
  have hj : j = 0 ∨ j = 1 ∨ j = 2 ∨ j = 3 ∨ j = 4 ∨ j = 5 ∨ j = 6 ∨ j = 7 ∨ j = 8 := by omega
  rcases hi with rfl | rfl | rfl | rfl | rfl | rfl | rfl | rfl | rfl <;> rcases hj with rfl | rfl | rfl | rfl | rfl | rfl | rfl | rfl | rfl <;> first | rfl | (exact absurd h (by decide))
theorem idI_small {j : Nat} (hj : j < 9) : (idI j).toNat ≤ 14 ∧ numId (idI j) = true ∧ idI j ≠ 15#64 ∧ lenN (idI j) ≠ 0 := by
  have hj : j = 0 ∨ j = 1 ∨ j = 2 ∨ j = 3 ∨ j = 4 ∨ j = 5 ∨ j = 6 ∨ j = 7 ∨ j = 8 := by omega
  rcases hj with rfl | rfl | rfl | rfl | rfl | rfl | rfl | rfl | rfl <;> decide
theorem other_id {id : BitVec 64} (h : id.toNat ≤ 2305843009213693952) : (100#64 + id).toNat = 100 + id.toNat := by
  rw [BitVec.toNat_add, show (100#64 : BitVec 64).toNat = 100 from rfl]; omega
theorem other_num {id : BitVec 64} (h : id.toNat ≤ 2305843009213693952) : numId (100#64 + id) = false := by
  have h1 := other_id h
  have hne : ∀ c : BitVec 64, c.toNat ≤ 15 → 100#64 + id ≠ c := fun c hc he => by rw [he] at h1; omega
  unfold numId
  rw [decide_eq_false (hne 1#64 (by decide)), decide_eq_false (hne 4#64 (by decide)), decide_eq_false (hne 5#64 (by decide)), decide_eq_false (hne 6#64 (by decide)), decide_eq_false (hne 7#64 (by decide)),
    decide_eq_false (hne 8#64 (by decide)), decide_eq_false (hne 9#64 (by decide)), decide_eq_false (hne 11#64 (by decide)), decide_eq_false (hne 14#64 (by decide))]
  rfl
theorem nodup_itemsK {b : Nat → Bool} {n : Nat → BitVec 64} : ∀ {k : Nat}, k ≤ 9 → ((itemsK b n k).map It.id).Nodup
  | 0, _ => List.nodup_nil
  | k + 1, hk => by
    rw [itemsK, List.map_append]
    refine List.nodup_append.2 ⟨nodup_itemsK (by omega), ?_, fun x hx y hy => ?_⟩
    · split
      · simp
      · simp
    · obtain ⟨z, hz, rfl⟩ := List.mem_map.1 hx
      obtain ⟨j, h1, _, rfl⟩ := mem_itemsK.1 hz
      split at hy
      · simp at hy
        subst hy
        intro hc
        have := idI_inj (by omega) (by omega) hc
        omega
      · simp at hy
theorem nodup_items0 {b : Nat → Bool} {n : Nat → BitVec 64} {src other : Bs} {id : BitVec 64} (h : id.toNat ≤ 2305843009213693952) : ((items0 b n src id other).map It.id).Nodup := by
  have h1 := other_id h
  unfold items0
  rw [List.map_append]
  refine List.nodup_append.2 ⟨nodup_itemsK (Nat.le_refl _), ?_, fun x hx y hy => ?_⟩
  · simp only [List.map_cons, List.map_nil, List.nodup_cons, List.mem_singleton, List.not_mem_nil, not_false_eq_true, List.nodup_nil, and_true]
    intro hc
    rw [← hc] at h1
    exact absurd h1 (by rw [show (15#64 : BitVec 64).toNat = 15 from rfl]; omega)
  · obtain ⟨z, hz, rfl⟩ := List.mem_map.1 hx
    obtain ⟨j, hj, _, rfl⟩ := mem_itemsK.1 hz
    have hs := idI_small hj
    simp only [List.map_cons, List.map_nil, List.mem_cons, List.not_mem_nil, or_false] at hy
    rcases hy with rfl | rfl
    · exact hs.2.2.1
    · intro hc
      have : (idI j).toNat = (100#64 + id).toNat := congrArg BitVec.toNat hc
      omega
theorem ok_items0 {b : Nat → Bool} {n : Nat → BitVec 64} {src other : Bs} {id : BitVec 64} {m : Nat} (h : id.toNat ≤ 2305843009213693952) (hn : ∀ j, j < 9 → lenN (n j) ≠ 0) (hm : ∀ x ∈ items0 b n src id other, x.v.length ≤ m) : ∀ x ∈ items0 b n src id other, ItOk m x := by
  intro x hx
  refine ⟨?_, hm x hx, fun hnum => ?_⟩
  · rcases List.mem_append.1 hx with hx | hx
    · obtain ⟨j, hj, _, rfl⟩ := mem_itemsK.1 hx
      exact (idI_small hj).2.2.2
    · simp only [List.mem_cons, List.not_mem_nil, or_false] at hx
      rcases hx with rfl | rfl
      · show lenN 15#64 ≠ 0; decide
      · have h1 := other_id h
        have := lenN_spec (100#64 + id)
        show lenN (100#64 + id) ≠ 0
        omega
  · rcases List.mem_append.1 hx with hx | hx
    · obtain ⟨j, hj, _, rfl⟩ := mem_itemsK.1 hx
      exact ⟨n j, rfl, hn j hj⟩
    · simp only [List.mem_cons, List.not_mem_nil, or_false] at hx
      rcases hx with rfl | rfl
      · exact absurd hnum (by show numId 15#64 ≠ true; decide)
      · rw [show numId (⟨100#64 + id, other⟩ : It).id = false from other_num h] at hnum; cases hnum
theorem mem_len : ∀ {l : List It} {x : It}, x ∈ l → x.v.length ≤ (joinI l).length
  | [], _, h => by cases h
  | y :: r, x, h => by
    rw [joinI, List.length_append, List.length_append]
    rcases List.mem_cons.1 h with rfl | h
    · unfold longL
      rw [List.length_append]
      omega
    · have := mem_len h
      omega
theorem joinI_le {B : Nat} : ∀ {l : List It}, (∀ x ∈ l, x.v.length ≤ B) → (joinI l).length ≤ l.length * (16 + B)
  | [], _ => by simp [joinI]
  | x :: r, h => by
    have h1 := joinI_le (l := r) fun y hy => h y (List.mem_cons_of_mem _ hy)
    have h2 := h x (List.mem_cons_self ..)
    have h3 := lenN_le x.id
    have h4 := lenN_le (BitVec.ofNat 64 x.v.length)
    rw [joinI, List.length_append, List.length_append, putL_len, List.length_cons, Nat.succ_mul]
    unfold longL
    rw [List.length_append, putL_len]
    omega
/-- What is wanted. -/
def wantP (b : Nat → Bool) (n : Nat → BitVec 64) (s : Sx.Sl) : Pm := ⟨if b 0 = true then n 0 else 0#64, if b 1 = true then n 1 else 0#64, if b 2 = true then n 2 else 0#64, if b 3 = true then n 3 else 0#64, if b 4 = true then n 4 else 0#64,
  if b 5 = true then n 5 else 0#64, if b 6 = true then n 6 else 0#64, if b 7 = true then n 7 else 0#64, if b 8 = true then n 8 else 2#64, s⟩
section
variable {b : Nat → Bool} {n : Nat → BitVec 64} {src other : Bs} {id : BitVec 64}
theorem val_num (hn : ∀ j, j < 9 → lenN (n j) ≠ 0) {j : Nat} (hj : j < 9) : valI ⟨idI j, putL (n j)⟩ = n j := by
  unfold valI
  rw [if_pos (idI_small hj).2.1]
  have := nx_put (hn j hj) []
  rw [List.append_nil] at this
  show (nextM (putL (n j)) 0).1.1 = _
  rw [this]
theorem has_id (h : id.toNat ≤ 2305843009213693952) {j : Nat} (hj : j < 9) : hasK (idI j) ((items0 b n src id other).map kvI) = b j := by
  cases hb : b j with
  | true => exact hasK_map.2 ⟨⟨idI j, putL (n j)⟩, List.mem_append.2 (.inl (mem_itemsK.2 ⟨j, hj, hb, rfl⟩)), rfl⟩
  | false =>
    cases hk : hasK (idI j) ((items0 b n src id other).map kvI) with
    | false => rfl
    | true =>
      obtain ⟨x, hx, hc⟩ := hasK_map.1 hk
      rcases List.mem_append.1 hx with hx | hx
      · obtain ⟨i, hi, h2, rfl⟩ := mem_itemsK.1 hx
        obtain rfl := idI_inj hi hj hc
        rw [hb] at h2; cases h2
      · have h1 := other_id h
        have h3 := idI_small hj
        simp only [List.mem_cons, List.not_mem_nil, or_false] at hx
        rcases hx with rfl | rfl
        · exact absurd hc.symm h3.2.2.1
        · have : (100#64 + id).toNat = (idI j).toNat := congrArg BitVec.toNat hc
          omega
theorem look_id (h : id.toNat ≤ 2305843009213693952) (hn : ∀ j, j < 9 → lenN (n j) ≠ 0) {j : Nat} (hj : j < 9) {d : BitVec 64} : lookK (idI j) d ((items0 b n src id other).map kvI) = if b j = true then n j else d := by
  have hk := has_id (b := b) (n := n) (src := src) (other := other) h hj
  cases hb : b j with
  | true =>
    rw [if_pos rfl]
    refine lookK_mem (by rw [List.map_map]; exact nodup_items0 h) ?_
    have := List.mem_map_of_mem (f := kvI) (List.mem_append.2 (.inl (mem_itemsK.2 ⟨j, hj, hb, rfl⟩)) : (⟨idI j, putL (n j)⟩ : It) ∈ items0 b n src id other)
    rwa [show kvI ⟨idI j, putL (n j)⟩ = (idI j, n j) by show (_, valI _) = _; rw [val_num hn hj]] at this
  | false =>
    rw [hb] at hk
    rw [lookK_none hk]; rfl
theorem lookK_app {k d : BitVec 64} : ∀ {D E : Said}, lookK k d (D ++ E) = if hasK k D = true then lookK k d D else lookK k d E
  | [], E => by simp [hasK]
  | x :: D, E => by
    rw [List.cons_append, lookK, lookK, hasK, lookK_app]
    by_cases hx : k = x.1
    · simp [hx]
    · simp [hx]
/-- In any order they are taken as they are wanted. -/
theorem order_take {l : List It} {q : Pm} {s : Sx.Sl} {e : Int} (hp : l.Perm (items0 b n src id other)) (h : id.toNat ≤ 2305843009213693952) (hn : ∀ j, j < 9 → lenN (n j) ≠ 0) (hm : (joinI l).length ≤ 1000000) (hs : s.l = src) (hc : checkP (wantP b n s) = 0) (ht : takeP (joinI l) e q) :
    e = 0 ∧ sameP q (wantP b n s) := by
  have hok : ∀ x ∈ l, ItOk (joinI l).length x := fun x hx => by
    have := ok_items0 (b := b) (src := src) (other := other) (m := (joinI l).length) h hn (fun y hy => mem_len (hp.mem_iff.2 hy)) x (hp.mem_iff.1 hx)
    exact this
  have hnd : (l.map It.id).Nodup := (hp.map It.id).nodup_iff.2 (nodup_items0 h)
  have hD : (l.map kvI).Perm ((items0 b n src id other).map kvI) := hp.map kvI
  have hnk : (((items0 b n src id other).map kvI).map (·.1)).Nodup := by rw [List.map_map]; exact nodup_items0 h
  unfold takeP at ht
  rw [all_all hm rfl hok hnd] at ht
  obtain ⟨-, ht⟩ := ht
  obtain ⟨-, ht⟩ := ht rfl
  have h15 : hasK 15#64 (l.map kvI) = true := hasK_map.2 ⟨⟨15#64, src⟩, hp.mem_iff.2 (List.mem_append.2 (.inr (List.mem_cons_self ..))), rfl⟩
  obtain ⟨q', -, hi, h1, h2⟩ := ht h15
  have hsrc : srcI [] l = src := srcI_mem hnd (hp.mem_iff.2 (List.mem_append.2 (.inr (List.mem_cons_self ..))))
  have h14 : hasK 14#64 (l.map kvI) = b 8 := by rw [hasK_perm hD]; exact has_id (j := 8) h (by decide)
  have look : ∀ j, j < 8 → lookK (idI j) 0#64 (idsP (l.map kvI)) = if b j = true then n j else 0#64 := fun j hj => by
    have h3 : lookK (idI j) 0#64 (l.map kvI) = if b j = true then n j else 0#64 := by rw [lookK_perm hD hnk]; exact look_id h hn (by omega)
    unfold idsP
    split
    · exact h3
    · rename_i hk
      rw [putK_new (by simpa using hk), lookK_app]
      split
      · exact h3
      · rename_i hk2
        have hne : ¬ idI j = (14#64, 2#64).1 := fun hc => absurd (idI_inj (i := j) (j := 8) (by omega) (by decide) hc) (by omega)
        rw [← h3, lookK_none (D := l.map kvI) (by simpa using hk2), lookK, if_neg hne]
        rfl
  have look8 : lookK 14#64 0#64 (idsP (l.map kvI)) = if b 8 = true then n 8 else 2#64 := by
    have h3 : lookK 14#64 0#64 (l.map kvI) = if b 8 = true then n 8 else 0#64 := by rw [lookK_perm hD hnk]; exact look_id (j := 8) h hn (by decide)
    unfold idsP
    rw [h14]
    cases hb : b 8 with
    | true => rw [if_pos rfl, if_pos rfl, h3, hb, if_pos rfl]
    | false =>
      rw [hb] at h14
      rw [if_neg (by decide), if_neg (by decide), putK_new h14, lookK_app, if_neg (by rw [h14]; decide)]
      rfl
  have hsm : sameP q' (wantP b n s) := by
    obtain ⟨h0, h1, h2, h3, h4, h5, h6, h7, h8, h9⟩ := hi
    exact ⟨h0.trans (look 0 (by decide)), h1.trans (look 1 (by decide)), h2.trans (look 2 (by decide)), h3.trans (look 3 (by decide)), h4.trans (look 4 (by decide)), h5.trans (look 5 (by decide)), h6.trans (look 6 (by decide)), h7.trans (look 7 (by decide)), h8.trans look8, h9.trans (hsrc.trans hs.symm)⟩
  obtain ⟨rfl, rfl⟩ := h2 (by rw [hsm.check]; exact hc)
  exact ⟨rfl, hsm⟩
end
end Vi
end Go.Proofs.Ytkjdkeolkigibaa
end

section
/-
  The law ParamOrder's params may be said; swaps. Plain. No condition.
-/
namespace Go.Proofs.Ytkjdkeolkigibaa
set_option linter.unusedVariables false
namespace Vi
open Sha Sx

theorem m2_le {a b : BitVec 64} {k : Nat} (ha : a.toNat ≤ k) (hb : b.toNat ≤ k) : (m2 a b).toNat ≤ k := by unfold m2; split <;> assumption
theorem check_of {p : Pm} (h0 : p.a0.toNat ≤ 1073741824) (h1 : p.a1.toNat ≤ 65536) (h2 : p.a2.toNat ≤ 65536) (h3 : p.a3.toNat ≤ 65536) (h4 : p.a4.toNat ≤ 65536) (h5 : p.a5.toNat ≤ 8) (h6 : p.a6.toNat ≤ 8) (h7 : p.a7.toNat < 16384)
    (h8 : 2 ≤ p.a8.toNat) (h9 : p.a8.toNat ≤ 4) (hs : p.s.l.length ≤ 20) : checkP p = 0 := by
  have hm : (m4 p.a1 p.a2 p.a3 p.a4).toNat ≤ 65536 := m2_le (m2_le (m2_le h1 h2) h3) h4
  unfold checkP
  rw [if_neg (by rw [BitVec.lt_def]; show ¬ 65536 < _; omega), if_neg (by rw [BitVec.lt_def]; show ¬ 1073741824 < _; omega), if_neg (by rw [BitVec.le_def]; show ¬ 16384 ≤ _; omega), if_neg (by rw [BitVec.lt_def]; show ¬ 8 < _; omega),
    if_neg (by rw [BitVec.lt_def]; show ¬ 8 < _; omega), if_neg (by rw [BitVec.lt_def]; show ¬ _ < 2; omega), if_neg (by rw [BitVec.lt_def]; show ¬ 4 < _; omega), if_neg (by omega)]
/-- Its numbers, in the order in which they are put. -/
def numJ (p : Pm) : Nat → BitVec 64
  | 0 => p.a0
  | 1 => p.a1
  | 2 => p.a2
  | 3 => p.a3
  | 4 => p.a4
  | 5 => p.a5
  | 6 => p.a6
  | 7 => p.a7
  | _ => p.a8
theorem iteT {c : Prop} [Decidable c] {x : BitVec 64} {k : Nat} (h : x.toNat ≤ k) : (if c then x else 0#64).toNat ≤ k := by split; exact h; exact Nat.zero_le _
theorem want_check {p : Pm} {b : Nat → Bool} {s : Sx.Sl} (hc : checkP p = 0) (hs : s.l = p.s.l) : checkP (wantP b (numJ p) s) = 0 := by
  obtain ⟨h0, ⟨h1, h2, h3, h4⟩, ⟨h5, h6⟩, h7, ⟨h8, h9⟩, h10⟩ := check_ok hc
  refine check_of (iteT h0) (iteT h1) (iteT h2) (iteT h3) (iteT h4) (iteT h5) (iteT h6) (Nat.lt_of_le_of_lt (iteT (k := 16383) (by show p.a7.toNat ≤ 16383; omega)) (by decide)) ?_ ?_ (by show s.l.length ≤ 20; rw [hs]; exact h10)
  · show 2 ≤ (if b 8 = true then p.a8 else 2#64).toNat
    split; exact h8; decide
  · show (if b 8 = true then p.a8 else 2#64).toNat ≤ 4
    split; exact h9; decide
theorem num_len {p : Pm} (hc : checkP p = 0) : ∀ j, j < 9 → lenN (numJ p j) ≠ 0 := by
  obtain ⟨h0, ⟨h1, h2, h3, h4⟩, ⟨h5, h6⟩, h7, ⟨h8, h9⟩, h10⟩ := check_ok hc
  intro j hj
  have hj : j = 0 ∨ j = 1 ∨ j = 2 ∨ j = 3 ∨ j = 4 ∨ j = 5 ∨ j = 6 ∨ j = 7 ∨ j = 8 := by omega
  rcases hj with rfl | rfl | rfl | rfl | rfl | rfl | rfl | rfl | rfl
  · exact small_len (by show p.a0.toNat ≤ 1073741824; omega)
  · exact small_len (by show p.a1.toNat ≤ 1073741824; omega)
  · exact small_len (by show p.a2.toNat ≤ 1073741824; omega)
  · exact small_len (by show p.a3.toNat ≤ 1073741824; omega)
  · exact small_len (by show p.a4.toNat ≤ 1073741824; omega)
  · exact small_len (by show p.a5.toNat ≤ 1073741824; omega)
  · exact small_len (by show p.a6.toNat ≤ 1073741824; omega)
  · exact small_len (by show p.a7.toNat ≤ 1073741824; omega)
  · exact small_len (by show p.a8.toNat ≤ 1073741824; omega)
/-- Two exchanged. -/
def swapL {α : Type} (l : List α) (a b : Nat) : List α := match l[a]?, l[b]? with
  | some x, some y => (l.set a y).set b x
  | _, _ => l
theorem swapL_perm {α : Type} (l : List α) (a b : Nat) : (swapL l a b).Perm l := by
  unfold swapL
  split
  · rename_i x y hx hy
    obtain ⟨ha, rfl⟩ := List.getElem?_eq_some_iff.1 hx
    obtain ⟨hb, rfl⟩ := List.getElem?_eq_some_iff.1 hy
    have h := Array.swap_perm (xs := l.toArray) (i := a) (j := b) (by simpa using ha) (by simpa using hb)
    have h2 := Array.perm_iff_toList_perm.1 h
    simpa [Array.swap] using h2
  · exact List.Perm.refl _
theorem small_bad {e : Int} {p : Pm} (h : takeP [15#8, 0#8, 4#8, 2#8, 1#8, 1#8] e p) : e = 24 := by
  unfold takeP at h
  have : (allP 6 6 [15#8, 0#8, 4#8, 2#8, 1#8, 1#8] [] []).1 = 24 := by decide +kernel
  split at h
  rename_i f D src heq
  rw [show [15#8, 0#8, 4#8, 2#8, 1#8, 1#8].length = 6 from rfl] at heq
  rw [heq] at this
  dsimp only at this
  subst this
  exact (h.1 (by decide)).1
theorem small_short {e : Int} {p : Pm} (h : takeP [15#8, 0#8, 4#8, 0#8] e p) : e = (allP 4 4 [15#8, 0#8, 4#8, 0#8] [] []).1 := by
  unfold takeP at h
  have : (allP 4 4 [15#8, 0#8, 4#8, 0#8] [] []).1 ≠ 0 := by decide +kernel
  split at h
  rename_i f D src heq
  rw [show [15#8, 0#8, 4#8, 0#8].length = 4 from rfl] at heq
  rw [heq] at this ⊢
  exact (h.1 this).1
end Vi
end Go.Proofs.Ytkjdkeolkigibaa
end

section
/-
  The document's numbers of one, two, four or eight bytes. No condition.
-/
namespace Go.Proofs.Ytkjdkeolkigibaa
set_option linter.unusedVariables false
namespace Vi
open Sha
theorem shr_div (n : BitVec 64) (j : Nat) : (n >>> (8 * j)) / 256#64 = n >>> (8 * (j + 1)) := by
  apply BitVec.eq_of_toNat_eq
  rw [BitVec.toNat_udiv, BitVec.toNat_ushiftRight, BitVec.toNat_ushiftRight, Nat.shiftRight_eq_div_pow, Nat.shiftRight_eq_div_pow, Nat.mul_add, Nat.pow_add, ← Nat.div_div_eq_div_mul]
  rfl
theorem shr_mod (n : BitVec 64) (j : Nat) : ((n >>> (8 * j)) % 256#64).setWidth 8 = byteN n j := by
  apply BitVec.eq_of_toNat_eq
  rw [byteN_toNat, BitVec.toNat_setWidth, BitVec.toNat_umod, BitVec.toNat_ushiftRight, Nat.shiftRight_eq_div_pow, Nat.pow_mul]
  show n.toNat / 256 ^ j % 256 % 256 = _
  omega
end Vi
namespace Sx
open Sha Vi

theorem fn_qlen (n : BitVec 64) : Fn Try.prog tds 66 [] [.c (.w64 n)] (fun _ => True) (fun x hs => x = .a (.c (.int .i64 (lenN n : Nat))) ∧ hs = []) := by
  refine fn_of_body tds_ok follows_ Try.func66 rfl (t := .a (.c (.w64 n)) :: anys (Try.f66.ntmps - 1)) rfl (fun w r0 hr _ => ?_)
  obtain rfl : r0 = [] := List.eq_nil_of_length_eq_zero hr
  have hs := lenN_spec n
  refine ⟨fun h => ?_, fun h0 => ?_⟩
  · have h : 4611686018427387903#64 < n := of_decide_eq_true h
    rw [BitVec.lt_def] at h
    have e : lenN n = 0 := by simp at h; omega
    rw [e]
    exact ⟨.a (.c (.int .i64 0)), [], ⟨[], ⟨rfl, rfl, rfl⟩, rfl, trivial⟩, rfl, rfl⟩
  have h0 : ¬ 4611686018427387903#64 < n := of_decide_eq_false h0
  rw [BitVec.lt_def] at h0
  simp at h0
  refine ⟨fun h => ?_, fun h1 => ?_⟩
  · have h : n < 64#64 := of_decide_eq_true h
    rw [BitVec.lt_def] at h
    have e : lenN n = 1 := by simp at h; omega
    rw [e]
    exact ⟨.a (.c (.int .i64 1)), [], ⟨[], ⟨rfl, rfl, rfl⟩, rfl, trivial⟩, rfl, rfl⟩
  have h1 : ¬ n < 64#64 := of_decide_eq_false h1
  rw [BitVec.lt_def] at h1
  simp at h1
  refine ⟨fun h => ?_, fun h2 => ?_⟩
  · have h : n < 16384#64 := of_decide_eq_true h
    rw [BitVec.lt_def] at h
    have e : lenN n = 2 := by simp at h; omega
    rw [e]
    exact ⟨.a (.c (.int .i64 2)), [], ⟨[], ⟨rfl, rfl, rfl⟩, rfl, trivial⟩, rfl, rfl⟩
  have h2 : ¬ n < 16384#64 := of_decide_eq_false h2
  rw [BitVec.lt_def] at h2
  simp at h2
  refine ⟨fun h => ?_, fun h3 => ?_⟩
  · have h : n < 1073741824#64 := of_decide_eq_true h
    rw [BitVec.lt_def] at h
    have e : lenN n = 4 := by simp at h; omega
    rw [e]
    exact ⟨.a (.c (.int .i64 4)), [], ⟨[], ⟨rfl, rfl, rfl⟩, rfl, trivial⟩, rfl, rfl⟩
  have h3 : ¬ n < 1073741824#64 := of_decide_eq_false h3
  rw [BitVec.lt_def] at h3
  simp at h3
  have e : lenN n = 8 := by omega
  rw [e]
  exact ⟨.a (.c (.int .i64 8)), [], ⟨[], ⟨rfl, rfl, rfl⟩, rfl, trivial⟩, rfl, rfl⟩
theorem fn_qtop (k : Nat) (hk : okSz k) : Fn Try.prog tds 79 [] [.c (.int .i64 (k : Nat))] (fun _ => True) (fun x hs => x = .a (.c (.int .i64 ((markB k).toNat : Nat))) ∧ hs = []) := by
  refine fn_of_body tds_ok follows_ Try.func79 rfl (t := .a (.c (.int .i64 (k : Nat))) :: anys (Try.f79.ntmps - 1)) rfl (fun w r0 hr _ => ?_)
  obtain rfl : r0 = [] := List.eq_nil_of_length_eq_zero hr
  rcases hk with rfl | rfl | rfl | rfl
  · refine ⟨fun h => ?_, fun h => absurd h (by decide)⟩
    exact ⟨.a (.c (.int .i64 0)), [], ⟨[], ⟨rfl, rfl, rfl⟩, rfl, trivial⟩, rfl, rfl⟩
  · refine ⟨fun h => absurd h (by decide), fun _ => ⟨fun h => ?_, fun h => absurd h (by decide)⟩⟩
    exact ⟨.a (.c (.int .i64 64)), [], ⟨[], ⟨rfl, rfl, rfl⟩, rfl, trivial⟩, rfl, rfl⟩
  · refine ⟨fun h => absurd h (by decide), fun _ => ⟨fun h => absurd h (by decide), fun _ => ⟨fun h => ?_, fun h => absurd h (by decide)⟩⟩⟩
    exact ⟨.a (.c (.int .i64 128)), [], ⟨[], ⟨rfl, rfl, rfl⟩, rfl, trivial⟩, rfl, rfl⟩
  · refine ⟨fun h => absurd h (by decide), fun _ => ⟨fun h => absurd h (by decide), fun _ => ⟨fun h => absurd h (by decide), fun _ => ⟨fun h => ?_, fun h => absurd h (by decide)⟩⟩⟩⟩
    exact ⟨.a (.c (.int .i64 192)), [], ⟨[], ⟨rfl, rfl, rfl⟩, rfl, trivial⟩, rfl, rfl⟩
theorem mark_add' {n : BitVec 64} {k : Nat} (hk : okSz k) (h0 : lenN n ≠ 0) (h1 : lenN n ≤ k) : byteN n (k - 1) + markB k = byteN n (k - 1) ||| markB k := by
  have := mark_add _ (head_lt hk h0 h1).1
  rcases hk with rfl | rfl | rfl | rfl
  · exact this.1.symm
  · exact this.2.1.symm
  · exact this.2.2.1.symm
  · exact this.2.2.2.symm
set_option maxRecDepth 20000 in
theorem fn_qwide (n : BitVec 64) (k : Nat) (hk : okSz k) (h0 : lenN n ≠ 0) (h1 : lenN n ≤ k) : Fn Try.prog tds 54 [] [.c (.w64 n), .c (.int .i64 (k : Nat))] (fun _ => True)
    (fun y hs => ∃ c', k ≤ c' ∧ y = .a (.c (.sl 0 0 0 (wideL n k).length c')) ∧ hs = [lsC (wideL n k) c']) := by
  refine fn_of_body tds_ok follows_ Try.func54 rfl (t := [.a (.c (.w64 (n))), .a (.c (.int .i64 ((k : Nat)))), .any, .any, .any, .any, .any, .any, .any, .any, .any, .any, .any, .any, .any, .any, .any, .any, .any, .any, .any, .any, .any, .any, .any, .any, .any, .any, .any, .any, .any, .any, .any, .any, .any, .any, .any, .any, .any, .any, .any, .any, .any, .any, .any]) rfl (fun w r0 hr _ => ?_)
  obtain rfl : r0 = [] := List.eq_nil_of_length_eq_zero hr
  have hk8 : 1 ≤ k ∧ k ≤ 8 := by rcases hk with rfl | rfl | rfl | rfl <;> omega
  (repeat first | refine And.intro (by omega) ?_ | refine And.intro (by decide) ?_ | (with_reducible refine frc_parts (by first | omega | decide) ?_) | (with_reducible refine frc_bytesL (by first | omega | decide) ?_) | refine And.intro rfl ?_)
  refine call_same (fn_qlen n) [] rfl (by (repeat first | exact trivial | refine ent1 ?_)) trivial (fun _ _ => trivial) ?_
  rintro x hs ⟨rfl, rfl⟩
  have e1 : decide ((lenN n : Int) = 0) = false := decide_eq_false (by omega)
  (repeat first | refine And.intro (by omega) ?_ | refine And.intro (by decide) ?_ | refine And.intro rfl ?_ | refine And.intro (fun _ => ?_) (fun h => Bool.noConfusion h) | refine And.intro (fun h => Bool.noConfusion h) (fun _ => ?_) | refine And.intro (fun _ => ?_) (fun h => absurd h (by rw [e1]; decide)) | refine And.intro (fun h => absurd h (by rw [e1]; decide)) (fun _ => ?_))
  refine call_same (fn_qlen n) [] rfl (by (repeat first | exact trivial | refine ent1 ?_)) trivial (fun _ _ => trivial) ?_
  rintro x hs ⟨rfl, rfl⟩
  have e2 : decide ((k : Int) < (lenN n : Int)) = false := decide_eq_false (by omega)
  (repeat first | refine And.intro (by omega) ?_ | refine And.intro (by decide) ?_ | refine And.intro rfl ?_ | refine And.intro (fun _ => ?_) (fun h => Bool.noConfusion h) | refine And.intro (fun h => Bool.noConfusion h) (fun _ => ?_) | refine And.intro (fun _ => ?_) (fun h => absurd h (by rw [e1]; decide)) | refine And.intro (fun h => absurd h (by rw [e1]; decide)) (fun _ => ?_) | refine And.intro (fun _ => ?_) (fun h => absurd h (by rw [e2]; decide)) | refine And.intro (fun h => absurd h (by rw [e2]; decide)) (fun _ => ?_))
  refine call_same (fn_qtop k hk) [] rfl (by (repeat first | exact trivial | refine ent1 ?_)) trivial (fun _ _ => trivial) ?_
  rintro x hs ⟨rfl, rfl⟩
  have e3 : decide (((markB k).toNat : Int) < 0) = false := decide_eq_false (by omega)
  (repeat first | refine And.intro (by omega) ?_ | refine And.intro (by decide) ?_ | refine And.intro rfl ?_ | refine And.intro (fun _ => ?_) (fun h => Bool.noConfusion h) | refine And.intro (fun h => Bool.noConfusion h) (fun _ => ?_) | refine And.intro (fun _ => ?_) (fun h => absurd h (by rw [e1]; decide)) | refine And.intro (fun h => absurd h (by rw [e1]; decide)) (fun _ => ?_) | refine And.intro (fun _ => ?_) (fun h => absurd h (by rw [e2]; decide)) | refine And.intro (fun h => absurd h (by rw [e2]; decide)) (fun _ => ?_) | refine And.intro (fun _ => ?_) (fun h => absurd h (by rw [e3]; decide)) | refine And.intro (fun h => absurd h (by rw [e3]; decide)) (fun _ => ?_))
  refine .inl ⟨Nat, fun j => ⟨[.a (.c (.w64 (n >>> (8 * j)))), .a (.c (.int .i64 ((k : Nat)))), .any, .any, .any, .a (.c (.p 0 0 0)), .a (.c (.int .i64 ((k : Int) - 1 - (j : Int)))), .any, .any, .any, .any, .any, .any, .any, .any, .any, .any, .any, .any, .any, .any, .any, .any, .any, .any, .any, .any, .any, .any, .any, .any, .any, .any, .any, .any, .any, .any, .any, .any, .any, .any, .any, .any, .any, .any], [[.row 8 fun i => .w8 (if k ≤ i + j ∧ i < k then byteN n (k - 1 - i) else 0#8)]]⟩, fun j => j ≤ k, fun j => 9 - j, ⟨0, [0], ⟨⟨rfl, rfl, rfl⟩, ?_⟩, by omega⟩, fun j hj => ?_⟩
  · (repeat first | exact trivial | refine ent1 ?_)
    refine ⟨fun i hi => ⟨(if_neg (by omega)).symm, trivial⟩, ?_⟩
    (repeat first | exact trivial | refine ent1 ?_)
  refine ⟨fun h => ?_, fun h => ?_⟩
  · have hlt : j < k := by have : (0 : Int) ≤ (k : Int) - 1 - j := of_decide_eq_true h; omega
    (repeat first | refine And.intro (by omega) ?_ | refine And.intro (by decide) ?_ | (with_reducible refine frc_parts (by first | omega | decide) ?_) | (with_reducible refine frc_bytesL (by first | omega | decide) ?_) | refine And.intro rfl ?_)
    refine ⟨j + 1, [0], ⟨⟨rfl, rfl, rfl⟩, ?_⟩, by omega, by dsimp only; omega⟩
    refine ⟨shr_div n j, ?_⟩
    (repeat first | exact trivial | refine ent1 ?_)
    refine ⟨fun i hi => eqC_w8 ?_, ?_⟩
    · have ei : ((k : Int) - 1 - (j : Int)).toNat + 0 = k - 1 - j := by omega
      rw [ei]
      refine upd_w8 (g := fun i => .w8 (if k ≤ i + (j + 1) ∧ i < k then byteN n (k - 1 - i) else 0#8)) ?_ (fun q hq => ?_) i
      · show SC.w8 _ = SC.w8 _
        rw [if_pos (by omega), shr_mod, show k - 1 - (k - 1 - j) = j by omega]
      · show SC.w8 _ = SC.w8 _
        have : (k ≤ q + j ∧ q < k) ↔ (k ≤ q + (j + 1) ∧ q < k) := by omega
        simp only [this]
    (repeat first | exact trivial | refine ent1 ?_)
  · obtain rfl : j = k := by have : ¬ (0 : Int) ≤ (k : Int) - 1 - j := of_decide_eq_false h; have hj : j ≤ k := hj; omega
    refine ⟨none, [], [(0, true), (1, true), (2, true), (3, false), (4, true), (5, true), (6, true)], [7], by kernel_rfl, ?_⟩
    (repeat first | refine And.intro (by omega) ?_ | refine And.intro (by decide) ?_ | (with_reducible refine frc_parts (by first | omega | decide) ?_) | (with_reducible refine frc_bytesL (by first | omega | decide) ?_) | refine And.intro rfl ?_)
    refine call_same (fn_qtop j hk) [] rfl (by (repeat first | exact trivial | refine ent1 ?_)) trivial (fun _ _ => trivial) ?_
    rintro x hs ⟨rfl, rfl⟩
    (repeat first | refine And.intro (by omega) ?_ | refine And.intro (by decide) ?_ | (with_reducible refine frc_parts (by first | omega | decide) ?_) | (with_reducible refine frc_bytesL (by first | omega | decide) ?_) | refine And.intro rfl ?_)
    refine frcN_of (m := 0) rfl ?_
    refine frcN_of (m := j) rfl ?_
    refine frcN_of (m := 0) rfl ?_
    refine frcN_of (m := j) rfl ?_
    refine frcN_of (m := 8) rfl ?_
    refine ⟨by show 0 + j ≤ 8; omega, ?_⟩
    refine ⟨⟨Nat.le_refl _, Nat.le_refl _, by show (0 + j) * 1 ≤ 140737488355328; omega⟩, fun c' hc' => ?_⟩
    refine ⟨.a (.c (.sl 0 0 0 (wideL n j).length c')), _, ⟨[2], ⟨rfl, rfl, rfl⟩, ?_⟩, c', by omega, rfl, rfl⟩
    refine ⟨rfl, by simp, rfl, ?_⟩
    refine ⟨rfl, fun i hi => eqC_bytes (fun i hi => ?_) i, trivial⟩
    have hi : i < j := by simpa using hi
    refine app_row (l := []) (m := wideL n j) (f := nthC []) rfl (wideL_len _ _) (fun i hi => absurd hi (by simp)) (fun i hi => ?_) i (by simpa using hi)
    have ht : BitVec.ofInt 8 ((markB j).toNat : Int) = markB j := by rw [BitVec.ofInt_natCast, BitVec.ofNat_toNat, BitVec.setWidth_eq]
    show upd _ 0 _ (i + 0) = _
    rw [L_wide hi]
    unfold upd
    by_cases hz : i = 0
    · rw [if_pos (show i + 0 = 0 from hz), if_pos hz]
      show SC.w8 ((if j ≤ 0 + j ∧ 0 < j then byteN n (j - 1 - 0) else 0#8) + BitVec.ofInt 8 ((markB j).toNat : Int)) = _
      rw [ht, if_pos (by omega), Nat.sub_zero, mark_add' hk h0 h1]
    · rw [if_neg (show ¬ i + 0 = 0 from hz), if_neg hz]
      show SC.w8 (if j ≤ i + j ∧ i < j then byteN n (j - 1 - i) else 0#8) = _
      rw [if_pos (by omega)]
set_option maxRecDepth 20000 in
theorem fn_qput (n : BitVec 64) (h0 : lenN n ≠ 0) : Fn Try.prog tds 29 [] [.c (.w64 n)] (fun _ => True)
    (fun y hs => ∃ c', lenN n ≤ c' ∧ y = .a (.c (.sl 0 0 0 (putL n).length c')) ∧ hs = [lsC (putL n) c']) := by
  refine fn_of_body tds_ok follows_ Try.func29 rfl (t := .a (.c (.w64 n)) :: anys (Try.f29.ntmps - 1)) rfl (fun w r0 hr _ => ?_)
  obtain rfl : r0 = [] := List.eq_nil_of_length_eq_zero hr
  (repeat first | refine And.intro (by omega) ?_ | refine And.intro (by decide) ?_ | (with_reducible refine frc_parts (by first | omega | decide) ?_) | (with_reducible refine frc_bytesL (by first | omega | decide) ?_) | refine And.intro rfl ?_)
  refine call_same (fn_qlen n) [] rfl (by (repeat first | exact trivial | refine ent1 ?_)) trivial (fun _ _ => trivial) ?_
  rintro x hs ⟨rfl, rfl⟩
  (repeat first | refine And.intro (by omega) ?_ | refine And.intro (by decide) ?_ | (with_reducible refine frc_parts (by first | omega | decide) ?_) | (with_reducible refine frc_bytesL (by first | omega | decide) ?_) | refine And.intro rfl ?_)
  refine call_same (fn_qwide n (lenN n) (lenN_ok h0) h0 (Nat.le_refl _)) [] rfl (by (repeat first | exact trivial | refine ent1 ?_)) trivial (fun _ _ => trivial) ?_
  rintro x hs ⟨c', hc', rfl, rfl⟩
  refine ⟨.a (.c (.sl 0 0 0 (putL n).length c')), _, ⟨[0], ⟨rfl, rfl, rfl⟩, ?_⟩, c', hc', rfl, rfl⟩
  (repeat first | exact trivial | refine ent1 ?_)
end Sx
end Go.Proofs.Ytkjdkeolkigibaa
end

section
/-
  What an endpoint says, by the document: what it can't be, its numbers, its bytes; two that are the same; one that may be. No condition.
-/
namespace Go.Proofs.Ytkjdkeolkigibaa
set_option linter.unusedVariables false
namespace Vi
open Sha Sx
def fitP (p : Pm) : Pm := ⟨p.a0 % 1073741825#64, p.a1 % 65537#64, p.a2 % 65537#64, p.a3 % 65537#64, p.a4 % 65537#64, p.a5 % 9#64, p.a6 % 9#64, p.a7 % 16384#64, 2#64 + p.a8 % 3#64, ⟨p.s.z, p.s.N, p.s.o, p.s.c, p.s.l.take 20⟩⟩
theorem fit_check (p : Pm) : checkP (fitP p) = 0 := by
  have m2k : ∀ {a b c : BitVec 64}, a ≤ c → b ≤ c → m2 a b ≤ c := fun {a b c} ha hb => by unfold m2; split <;> assumption
  have k1 : ∀ (a : BitVec 64), a % 65537#64 ≤ 65536#64 := fun a => by rw [BitVec.le_def, BitVec.toNat_umod]; have : a.toNat % 65537 < 65537 := Nat.mod_lt _ (by decide); show a.toNat % 65537 ≤ 65536; omega
  have k2 : ∀ (a : BitVec 64), a % 9#64 ≤ 8#64 := fun a => by rw [BitVec.le_def, BitVec.toNat_umod]; have : a.toNat % 9 < 9 := Nat.mod_lt _ (by decide); show a.toNat % 9 ≤ 8; omega
  have k3 : (2#64 + p.a8 % 3#64).toNat = 2 + p.a8.toNat % 3 := by
    have : p.a8.toNat % 3 < 3 := Nat.mod_lt _ (by decide)
    rw [BitVec.toNat_add, BitVec.toNat_umod]
    show (2 + p.a8.toNat % 3) % 2 ^ 64 = _
    omega
  unfold checkP fitP
  rw [if_neg, if_neg, if_neg, if_neg, if_neg, if_neg, if_neg, if_neg]
  · simp only [List.length_take]; omega
  · intro h
    have h : 4 < (2#64 + p.a8 % 3#64).toNat := h
    omega
  · intro h
    have h : (2#64 + p.a8 % 3#64).toNat < 2 := h
    omega
  · exact fun h => absurd (k2 p.a6) (Nat.not_le_of_lt h)
  · exact fun h => absurd (k2 p.a5) (Nat.not_le_of_lt h)
  · intro h
    have h : 16384 ≤ (p.a7 % 16384#64).toNat := h
    rw [BitVec.toNat_umod] at h
    have : p.a7.toNat % 16384 < 16384 := Nat.mod_lt _ (by decide)
    have h : 16384 ≤ p.a7.toNat % 16384 := h
    omega
  · intro h
    have h : 1073741824 < (p.a0 % 1073741825#64).toNat := h
    rw [BitVec.toNat_umod] at h
    have : p.a0.toNat % 1073741825 < 1073741825 := Nat.mod_lt _ (by decide)
    have h : 1073741824 < p.a0.toNat % 1073741825 := h
    omega
  · exact fun h => absurd (m2k (m2k (m2k (k1 p.a1) (k1 p.a2)) (k1 p.a3)) (k1 p.a4)) (Nat.not_le_of_lt h)
instance (p q : Pm) : Decidable (sameP p q) := by unfold sameP; infer_instance
end Vi
namespace Sx
open Sha Vi

abbrev nineL (p : Pm) : List (BitVec 64) := [p.a0, p.a1, p.a2, p.a3, p.a4, p.a5, p.a6, p.a7, p.a8]
theorem numsN {l : List (BitVec 64)} : ∀ {m : List SC}, m = l.map SC.w64 → ∀ (j : Nat) (x : BitVec 64), l[j]? = some x → nthC m j = .w64 x := by
  rintro m rfl j x h
  induction l generalizing j with
  | nil => simp at h
  | cons y l ih =>
    cases j with
    | zero => simp at h; subst h; rfl
    | succ j => exact ih j (by simpa using h)
set_option maxRecDepth 20000 in
set_option maxHeartbeats 8000000 in
theorem fn_psame (p q : Pm) (hp : p.s.Ok) (hq : q.s.Ok) : FnR Try.prog tds 28 2 [svB p.s, svB q.s] [.agg (pmC 0 p), .agg (pmC 1 q)] (fun _ => True)
    (fun y hs => y = .a (.c (.bool (decide (sameP p q)))) ∧ hs = [svB p.s, svB q.s]) := by
  refine fn_of_body tds_ok follows_ Try.func28 rfl (t := .a (.agg (pmC 0 p)) :: .a (.agg (pmC 1 q)) :: anys (Try.f28.ntmps - 2)) rfl (fun w r0 hr _ => ?_)
  obtain ⟨x0, x1, rfl⟩ := len2' hr
  by_cases h0 : p.a0 = q.a0
  rotate_left
  · have e0 : decide (p.a0 = q.a0) = false := decide_eq_false h0
    rw [show decide (sameP p q) = false from decide_eq_false fun h => h0 h.1]
    (repeat first | (refine And.intro ?_ ?_; first | exact rfl | ((exact fun h => absurd h (by first | decide | (rw [e0]; decide))); intro yy; clear yy) | (rotate_left; (exact fun h => absurd h (by first | decide | (rw [e0]; decide))); intro yy; clear yy) | decide | omega) | (with_reducible refine frc_bytesL (by first | omega | decide) ?_) | (with_reducible refine frc_bytesM (by first | omega | decide) ?_))
    refine ⟨.a (.c (.bool false)), _, ⟨[0, 1], ⟨rfl, rfl, rfl⟩, ?_⟩, rfl, rfl⟩
    (repeat first | exact trivial | refine ent1 ?_)
    refine eqC_bts (eqC_bts ?_)
    (repeat first | exact trivial | refine ent1 ?_)
  have e0 : decide (p.a0 = q.a0) = true := decide_eq_true h0
  by_cases h1 : p.a1 = q.a1
  rotate_left
  · have e1 : decide (p.a1 = q.a1) = false := decide_eq_false h1
    rw [show decide (sameP p q) = false from decide_eq_false fun h => h1 h.2.1]
    (repeat first | (refine And.intro ?_ ?_; first | exact rfl | ((exact fun h => absurd h (by first | decide | (rw [e0]; decide) | (rw [e1]; decide))); intro yy; clear yy) | (rotate_left; (exact fun h => absurd h (by first | decide | (rw [e0]; decide) | (rw [e1]; decide))); intro yy; clear yy) | decide | omega) | (with_reducible refine frc_bytesL (by first | omega | decide) ?_) | (with_reducible refine frc_bytesM (by first | omega | decide) ?_))
    refine ⟨.a (.c (.bool false)), _, ⟨[0, 1], ⟨rfl, rfl, rfl⟩, ?_⟩, rfl, rfl⟩
    (repeat first | exact trivial | refine ent1 ?_)
    refine eqC_bts (eqC_bts ?_)
    (repeat first | exact trivial | refine ent1 ?_)
  have e1 : decide (p.a1 = q.a1) = true := decide_eq_true h1
  by_cases h2 : p.a2 = q.a2
  rotate_left
  · have e2 : decide (p.a2 = q.a2) = false := decide_eq_false h2
    rw [show decide (sameP p q) = false from decide_eq_false fun h => h2 h.2.2.1]
    (repeat first | (refine And.intro ?_ ?_; first | exact rfl | ((exact fun h => absurd h (by first | decide | (rw [e0]; decide) | (rw [e1]; decide) | (rw [e2]; decide))); intro yy; clear yy) | (rotate_left; (exact fun h => absurd h (by first | decide | (rw [e0]; decide) | (rw [e1]; decide) | (rw [e2]; decide))); intro yy; clear yy) | decide | omega) | (with_reducible refine frc_bytesL (by first | omega | decide) ?_) | (with_reducible refine frc_bytesM (by first | omega | decide) ?_))
    refine ⟨.a (.c (.bool false)), _, ⟨[0, 1], ⟨rfl, rfl, rfl⟩, ?_⟩, rfl, rfl⟩
    (repeat first | exact trivial | refine ent1 ?_)
    refine eqC_bts (eqC_bts ?_)
    (repeat first | exact trivial | refine ent1 ?_)
  have e2 : decide (p.a2 = q.a2) = true := decide_eq_true h2
  by_cases h3 : p.a3 = q.a3
  rotate_left
  · have e3 : decide (p.a3 = q.a3) = false := decide_eq_false h3
    rw [show decide (sameP p q) = false from decide_eq_false fun h => h3 h.2.2.2.1]
    (repeat first | (refine And.intro ?_ ?_; first | exact rfl | ((exact fun h => absurd h (by first | decide | (rw [e0]; decide) | (rw [e1]; decide) | (rw [e2]; decide) | (rw [e3]; decide))); intro yy; clear yy) | (rotate_left; (exact fun h => absurd h (by first | decide | (rw [e0]; decide) | (rw [e1]; decide) | (rw [e2]; decide) | (rw [e3]; decide))); intro yy; clear yy) | decide | omega) | (with_reducible refine frc_bytesL (by first | omega | decide) ?_) | (with_reducible refine frc_bytesM (by first | omega | decide) ?_))
    refine ⟨.a (.c (.bool false)), _, ⟨[0, 1], ⟨rfl, rfl, rfl⟩, ?_⟩, rfl, rfl⟩
    (repeat first | exact trivial | refine ent1 ?_)
    refine eqC_bts (eqC_bts ?_)
    (repeat first | exact trivial | refine ent1 ?_)
  have e3 : decide (p.a3 = q.a3) = true := decide_eq_true h3
  by_cases h4 : p.a4 = q.a4
  rotate_left
  · have e4 : decide (p.a4 = q.a4) = false := decide_eq_false h4
    rw [show decide (sameP p q) = false from decide_eq_false fun h => h4 h.2.2.2.2.1]
    (repeat first | (refine And.intro ?_ ?_; first | exact rfl | ((exact fun h => absurd h (by first | decide | (rw [e0]; decide) | (rw [e1]; decide) | (rw [e2]; decide) | (rw [e3]; decide) | (rw [e4]; decide))); intro yy; clear yy) | (rotate_left; (exact fun h => absurd h (by first | decide | (rw [e0]; decide) | (rw [e1]; decide) | (rw [e2]; decide) | (rw [e3]; decide) | (rw [e4]; decide))); intro yy; clear yy) | decide | omega) | (with_reducible refine frc_bytesL (by first | omega | decide) ?_) | (with_reducible refine frc_bytesM (by first | omega | decide) ?_))
    refine ⟨.a (.c (.bool false)), _, ⟨[0, 1], ⟨rfl, rfl, rfl⟩, ?_⟩, rfl, rfl⟩
    (repeat first | exact trivial | refine ent1 ?_)
    refine eqC_bts (eqC_bts ?_)
    (repeat first | exact trivial | refine ent1 ?_)
  have e4 : decide (p.a4 = q.a4) = true := decide_eq_true h4
  by_cases h5 : p.a5 = q.a5
  rotate_left
  · have e5 : decide (p.a5 = q.a5) = false := decide_eq_false h5
    rw [show decide (sameP p q) = false from decide_eq_false fun h => h5 h.2.2.2.2.2.1]
    (repeat first | (refine And.intro ?_ ?_; first | exact rfl | ((exact fun h => absurd h (by first | decide | (rw [e0]; decide) | (rw [e1]; decide) | (rw [e2]; decide) | (rw [e3]; decide) | (rw [e4]; decide) | (rw [e5]; decide))); intro yy; clear yy) | (rotate_left; (exact fun h => absurd h (by first | decide | (rw [e0]; decide) | (rw [e1]; decide) | (rw [e2]; decide) | (rw [e3]; decide) | (rw [e4]; decide) | (rw [e5]; decide))); intro yy; clear yy) | decide | omega) | (with_reducible refine frc_bytesL (by first | omega | decide) ?_) | (with_reducible refine frc_bytesM (by first | omega | decide) ?_))
    refine ⟨.a (.c (.bool false)), _, ⟨[0, 1], ⟨rfl, rfl, rfl⟩, ?_⟩, rfl, rfl⟩
    (repeat first | exact trivial | refine ent1 ?_)
    refine eqC_bts (eqC_bts ?_)
    (repeat first | exact trivial | refine ent1 ?_)
  have e5 : decide (p.a5 = q.a5) = true := decide_eq_true h5
  by_cases h6 : p.a6 = q.a6
  rotate_left
  · have e6 : decide (p.a6 = q.a6) = false := decide_eq_false h6
    rw [show decide (sameP p q) = false from decide_eq_false fun h => h6 h.2.2.2.2.2.2.1]
    (repeat first | (refine And.intro ?_ ?_; first | exact rfl | ((exact fun h => absurd h (by first | decide | (rw [e0]; decide) | (rw [e1]; decide) | (rw [e2]; decide) | (rw [e3]; decide) | (rw [e4]; decide) | (rw [e5]; decide) | (rw [e6]; decide))); intro yy; clear yy) | (rotate_left; (exact fun h => absurd h (by first | decide | (rw [e0]; decide) | (rw [e1]; decide) | (rw [e2]; decide) | (rw [e3]; decide) | (rw [e4]; decide) | (rw [e5]; decide) | (rw [e6]; decide))); intro yy; clear yy) | decide | omega) | (with_reducible refine frc_bytesL (by first | omega | decide) ?_) | (with_reducible refine frc_bytesM (by first | omega | decide) ?_))
    refine ⟨.a (.c (.bool false)), _, ⟨[0, 1], ⟨rfl, rfl, rfl⟩, ?_⟩, rfl, rfl⟩
    (repeat first | exact trivial | refine ent1 ?_)
    refine eqC_bts (eqC_bts ?_)
    (repeat first | exact trivial | refine ent1 ?_)
  have e6 : decide (p.a6 = q.a6) = true := decide_eq_true h6
  by_cases h7 : p.a7 = q.a7
  rotate_left
  · have e7 : decide (p.a7 = q.a7) = false := decide_eq_false h7
    rw [show decide (sameP p q) = false from decide_eq_false fun h => h7 h.2.2.2.2.2.2.2.1]
    (repeat first | (refine And.intro ?_ ?_; first | exact rfl | ((exact fun h => absurd h (by first | decide | (rw [e0]; decide) | (rw [e1]; decide) | (rw [e2]; decide) | (rw [e3]; decide) | (rw [e4]; decide) | (rw [e5]; decide) | (rw [e6]; decide) | (rw [e7]; decide))); intro yy; clear yy) | (rotate_left; (exact fun h => absurd h (by first | decide | (rw [e0]; decide) | (rw [e1]; decide) | (rw [e2]; decide) | (rw [e3]; decide) | (rw [e4]; decide) | (rw [e5]; decide) | (rw [e6]; decide) | (rw [e7]; decide))); intro yy; clear yy) | decide | omega) | (with_reducible refine frc_bytesL (by first | omega | decide) ?_) | (with_reducible refine frc_bytesM (by first | omega | decide) ?_))
    refine ⟨.a (.c (.bool false)), _, ⟨[0, 1], ⟨rfl, rfl, rfl⟩, ?_⟩, rfl, rfl⟩
    (repeat first | exact trivial | refine ent1 ?_)
    refine eqC_bts (eqC_bts ?_)
    (repeat first | exact trivial | refine ent1 ?_)
  have e7 : decide (p.a7 = q.a7) = true := decide_eq_true h7
  by_cases h8 : p.a8 = q.a8
  rotate_left
  · have e8 : decide (p.a8 = q.a8) = false := decide_eq_false h8
    rw [show decide (sameP p q) = false from decide_eq_false fun h => h8 h.2.2.2.2.2.2.2.2.1]
    (repeat first | (refine And.intro ?_ ?_; first | exact rfl | ((exact fun h => absurd h (by first | decide | (rw [e0]; decide) | (rw [e1]; decide) | (rw [e2]; decide) | (rw [e3]; decide) | (rw [e4]; decide) | (rw [e5]; decide) | (rw [e6]; decide) | (rw [e7]; decide) | (rw [e8]; decide))); intro yy; clear yy) | (rotate_left; (exact fun h => absurd h (by first | decide | (rw [e0]; decide) | (rw [e1]; decide) | (rw [e2]; decide) | (rw [e3]; decide) | (rw [e4]; decide) | (rw [e5]; decide) | (rw [e6]; decide) | (rw [e7]; decide) | (rw [e8]; decide))); intro yy; clear yy) | decide | omega) | (with_reducible refine frc_bytesL (by first | omega | decide) ?_) | (with_reducible refine frc_bytesM (by first | omega | decide) ?_))
    refine ⟨.a (.c (.bool false)), _, ⟨[0, 1], ⟨rfl, rfl, rfl⟩, ?_⟩, rfl, rfl⟩
    (repeat first | exact trivial | refine ent1 ?_)
    refine eqC_bts (eqC_bts ?_)
    (repeat first | exact trivial | refine ent1 ?_)
  have e8 : decide (p.a8 = q.a8) = true := decide_eq_true h8
  (repeat first | (refine And.intro ?_ ?_; first | exact rfl | ((exact fun h => absurd h (by first | decide | (rw [e0]; decide) | (rw [e1]; decide) | (rw [e2]; decide) | (rw [e3]; decide) | (rw [e4]; decide) | (rw [e5]; decide) | (rw [e6]; decide) | (rw [e7]; decide) | (rw [e8]; decide))); intro yy; clear yy) | (rotate_left; (exact fun h => absurd h (by first | decide | (rw [e0]; decide) | (rw [e1]; decide) | (rw [e2]; decide) | (rw [e3]; decide) | (rw [e4]; decide) | (rw [e5]; decide) | (rw [e6]; decide) | (rw [e7]; decide) | (rw [e8]; decide))); intro yy; clear yy) | decide | omega) | (with_reducible refine frc_bytesL (by first | omega | decide) ?_) | (with_reducible refine frc_bytesM (by first | omega | decide) ?_))
  refine call_same (fn_equal p.s q.s hp hq) [0, 1] rfl (by (repeat first | exact trivial | refine ent1 ?_)) (by refine eqC_bts (eqC_bts ?_); (repeat first | exact trivial | refine ent1 ?_)) (fun _ _ => trivial) ?_
  rintro x hs' ⟨rfl, rfl⟩
  have hv : decide (sameP p q) = decide (p.s.l = q.s.l) := by unfold sameP; simp [h0, h1, h2, h3, h4, h5, h6, h7, h8]
  rw [hv]
  (repeat first | (refine And.intro ?_ ?_; first | exact rfl | ((exact fun h => absurd h (by first | decide | (rw [e0]; decide) | (rw [e1]; decide) | (rw [e2]; decide) | (rw [e3]; decide) | (rw [e4]; decide) | (rw [e5]; decide) | (rw [e6]; decide) | (rw [e7]; decide) | (rw [e8]; decide))); intro yy; clear yy) | (rotate_left; (exact fun h => absurd h (by first | decide | (rw [e0]; decide) | (rw [e1]; decide) | (rw [e2]; decide) | (rw [e3]; decide) | (rw [e4]; decide) | (rw [e5]; decide) | (rw [e6]; decide) | (rw [e7]; decide) | (rw [e8]; decide))); intro yy; clear yy) | decide | omega) | (with_reducible refine frc_bytesL (by first | omega | decide) ?_) | (with_reducible refine frc_bytesM (by first | omega | decide) ?_))
  refine ⟨.a (.c (.bool (decide (p.s.l = q.s.l)))), _, ⟨[0, 1], ⟨rfl, rfl, rfl⟩, ?_⟩, rfl, rfl⟩
  (repeat first | exact trivial | refine ent1 ?_)
  refine eqC_bts (eqC_bts ?_)
  (repeat first | exact trivial | refine ent1 ?_)
end Sx
end Go.Proofs.Ytkjdkeolkigibaa
end

section
/-
  What an endpoint says, as bytes by the document. No condition.
-/
namespace Go.Proofs.Ytkjdkeolkigibaa
set_option linter.unusedVariables false
namespace Vi
open Sha Sx
end Vi
namespace Sx
open Sha Vi
theorem mp_row {g : Nat → Nat} {l : Bs} (i : Nat) (hi : i < l.length) : SC.mp g (bytesF l.length (L l) i) = .w8 (L l i) := by rw [bytesF_lt hi]; rfl
end Sx
end Go.Proofs.Ytkjdkeolkigibaa
end

section
/-
  From a function over blocks to a law's walk: arguments opened. Over any program. No condition of its own.
-/
namespace Go.Proofs.Ytkjdkeolkigibaa
set_option linter.unusedVariables false
namespace Sx
open Go.RowKit Go.ChangeShapes Go.WideShapes

section
variable {H : Type} {enc : TypeId × Value → H} {P : Program} {w : World} {base : Nat} {sp : Nat → Bool} {held : Bool}
theorem wf_w8 {a : Int} (h : (Lit.int .u8 a).wf = true) : a = ((BitVec.ofInt 8 a).toNat : Int) := by
  have := bounds_u8 h
  rw [BitVec.toNat_ofInt]
  omega
end
theorem isAs_nil (r : Rho) : IsAs r [] [] := ⟨rfl, fun j x e => by simp at e⟩
theorem isAs_cons {r : Rho} {x : SA} {v : Value} {l : List SA} {vs : List Value} (h : SA.Is r x v) (hs : IsAs r l vs) : IsAs r (x :: l) (v :: vs) :=
  ⟨by simpa using hs.1, fun j y e => by
    cases j with
    | zero => simp at e; subst e; exact ⟨v, rfl, h⟩
    | succ j => exact hs.2 j y e⟩
/-- A law's walk. -/
theorem Fn.law {P : Program} {T : List (Nat × TD)} {f : FuncId} {args : List SA} {raw : World → Prop} (h : Fn P T f [] args raw (fun x hs => x = .a (.c (.bool true)) ∧ hs = [])) {w : World} {vs : List Value} (ha : IsAs [] args vs) (hr : raw w) :
    Calls P f vs.toArray w fun e w' => e = .returned (.bool true) ∧ Below w.heap.size w w' := by
  refine (Fn.calls h ha hr).mono ?_
  rintro e w' ⟨v, x, hs, r', rfl, hx, hok, rfl, rfl⟩
  obtain rfl : v = .bool true := hx
  exact ⟨rfl, hok.ext.below0⟩
end Sx
end Go.Proofs.Ytkjdkeolkigibaa
end

section
/-
  From a function over blocks that are only read to a law's walk: slices of bytes that came in. Over any program. No condition of its own.
-/
namespace Go.Proofs.Ytkjdkeolkigibaa
set_option linter.unusedVariables false
namespace Sx
open Go.RowKit Go.ChangeShapes Go.WideShapes Sha

theorem okWide_spot {P : Program} {w : World} {r : Reach} {b0 : Nat} {t e : TypeId} {a : Option Addr} {n c : Nat} (ht : P.underlying t = some (.slice e)) (h : Value.okWide P w r b0 t (.slice a n c)) : ∀ x, a = some x → x.spot = none := by
  rintro x rfl
  simp only [Value.okWide, ht, Cell.okWide, Cell.ok] at h
  exact h.2.2.2.1
/-- A slice of bytes that came in: nil (z) or not, its bytes, where they lie. -/
structure InB (w : World) (a : Option Addr) (n c : Nat) (z : Bool) (l : Bs) (B f : Nat) : Prop where
  len : l.length = n
  le : n ≤ c
  cap : c ≤ maxLen
  nil : z = true → l = []
  val : ∀ (r : Rho) (i : Nat), r[i]? = some (B, f) → SC.Is r (.sn z i 0 0 n c) (.slice a n c)
  at_ : ∀ r : Rho, At false r w B f (flat (bts z n 0 n (L l)))
theorem open_b8 {w : World} {a : Option Addr} {len cap : Nat} {zs : List Int} (h : IsRow .u8 w a len cap zs) (hs : ∀ x, a = some x → x.spot = none) : ∃ z l B f, InB w a len cap z l B f := by
  rcases h with ⟨rfl, rfl, rfl, rfl⟩ | ⟨x, rfl, hl, hm, hz, hc, hw⟩
  · exact ⟨true, [], 0, 0, rfl, Nat.le_refl _, by unfold maxLen; omega, fun _ => rfl, fun r i _ => .inl ⟨rfl, rfl, rfl, rfl⟩, fun r j y e => by simp [bts, flat] at e⟩
  · obtain ⟨B, f, spot⟩ := x
    obtain rfl : spot = none := hs _ rfl
    refine ⟨false, (zs.take len).map (BitVec.ofInt 8), B, f, by simp; omega, hl, hm, fun h => Bool.noConfusion h, fun r i hr => .inr (.inl ⟨rfl, B, f, hr, rfl⟩), fun r j y e => ?_⟩
    have hj : j < len := by
      rcases Nat.lt_or_ge j len with h | h
      · exact h
      · rw [List.getElem?_eq_none (by simpa [bts, flat] using h)] at e; cases e
    have e2 : y = .w8 (L ((zs.take len).map (BitVec.ofInt 8)) j) := by
      simp only [bts, flat, List.append_nil, List.getElem?_map, Option.map_eq_some_iff] at e
      obtain ⟨i, hi, rfl⟩ := e
      rw [List.getElem?_range (by omega)] at hi
      injection hi with hi
      subst hi
      have := winF_at 0 len (L ((zs.take len).map (BitVec.ofInt 8))) hj
      rwa [Nat.zero_add] at this
    subst e2
    have hc1 := hc j (by omega)
    have ha : (⟨B, f, none⟩ : Addr).add j = ⟨B, f + j, none⟩ := by unfold Addr.add; simp
    rw [ha] at hc1
    refine ⟨_, hc1, ?_, fun h => Bool.noConfusion h⟩
    show Value.int .u8 _ = Value.int .u8 _
    congr 1
    have hjz : j < zs.length := by omega
    have h3 : zs.getD j 0 = zs[j] := by rw [List.getD_eq_getElem?_getD, List.getElem?_eq_getElem hjz]; rfl
    have h4 : L ((zs.take len).map (BitVec.ofInt 8)) j = BitVec.ofInt 8 zs[j] := by
      rw [L_lt (by simp; omega)]
      simp
    rw [h3, h4]
    exact wf_w8 (hw _ (List.getElem_mem _))
/-- The blocks lie where r says. -/
def AllAt (R : Rho) (w : World) : List (List Seg) → Rho → Prop
  | [], [] => True
  | ch :: h, (B, f) :: r => At false R w B f (flat ch) ∧ AllAt R w h r
  | _, _ => False
theorem AllAt.len {R : Rho} {w : World} : ∀ {h : List (List Seg)} {r : Rho}, AllAt R w h r → r.length = h.length
  | [], [], _ => rfl
  | _ :: h, _ :: r, k => by rw [List.length_cons, List.length_cons, AllAt.len k.2]
  | [], _ :: _, k => k.elim
  | _ :: _, [], k => k.elim
theorem AllAt.get {R : Rho} {w : World} : ∀ {h : List (List Seg)} {r : Rho}, AllAt R w h r → ∀ (i : Nat) (ch : List Seg) (B f : Nat), h[i]? = some ch → r[i]? = some (B, f) → At false R w B f (flat ch)
  | [], [], _, i, _, _, _, e, _ => by simp at e
  | c :: h, (B', f') :: r, k, 0, _, _, _, e1, e2 => by
    simp at e1 e2
    obtain ⟨rfl, rfl⟩ := e2
    subst e1
    exact k.1
  | c :: h, (B', f') :: r, k, i + 1, _, _, _, e1, e2 => k.2.get i _ _ _ (by simpa using e1) (by simpa using e2)
theorem heapOk_ro {P : Program} {T : List (Nat × TD)} {w : World} {r0 : Rho} {h0 : List (List Seg)} (hat : AllAt r0 w h0 r0) (hp : ∀ (i : Nat) (W : World) (ms : List Nat), h0[i]? = some [.past W ms] → W = w) : HeapOk (cx0 P T w r0 h0.length h0) h0 r0 w := by
  have hlen := hat.len
  have hget : ∀ i, h0[i]? = some (getH h0 i) ∨ h0[i]? = none := fun i => by
    rcases Nat.lt_or_ge i h0.length with h | h
    · exact .inl (by rw [List.getElem?_eq_getElem h]; have := getH_eq h0 i; rw [List.getElem?_eq_getElem h] at this; simpa using this.symm)
    · exact .inr (List.getElem?_eq_none h)
  have out : ∀ (i : Nat) (x : Nat × Nat), h0.length ≤ i → r0[i]? = some x → False := fun i x hi e => by
    rw [List.getElem?_eq_none (by omega)] at e; cases e
  refine ⟨Ext.refl _ _, RLe.refl _, Nat.le_of_eq hlen.symm, hlen, fun i ch B f hi hr => ?_, fun i B f ho hr => (out i _ ho hr).elim, fun i B f ho hr => (out i _ ho hr).elim, fun i B f ho hl hr => ?_, fun i ch ho hl hi => ?_, fun i j B f f' ch ch' hij o1 o2 h1 h2 r1 r2 => (out i _ o1 r1).elim, fun i m B f ho _ hr => (out i _ ho hr).elim, fun i W ms hi => ?_⟩
  · have hil : i < h0.length := (List.getElem?_eq_some_iff.1 hi).1
    have : Nat.ble h0.length i = false := by
      cases e : Nat.ble h0.length i
      · rfl
      · have := ble_le e; omega
    show At (Nat.ble h0.length i) _ _ _ _ _
    rw [this]
    exact hat.get i ch B f hi hr
  · refine ⟨?_, ?_⟩
    · show B ∉ (r0.drop h0.length).map (·.1)
      rw [List.drop_eq_nil_of_le (by omega)]
      simp
    · rcases hget i with e | e
      · exact (hat.get i _ B f e hr).lt hl
      · rw [List.getElem?_eq_none_iff] at e
        exact (out i _ e hr).elim
  · have hl : ¬ flat (getH h0 i) ≠ [] := hl
    rcases hget i with e | e
    · rw [hi] at e
      injection e with e
      rw [e]
      exact Classical.not_not.1 hl
    · rw [hi] at e; cases e
  · obtain rfl := hp i W ms hi
    exact ⟨Ext.refl _ _, fun B _ h2 h3 => ⟨i, _, ms, hi, h2, h3⟩, fun j B f ho hr => (out j _ ho hr).elim⟩
def NoPast : List (List Seg) → Prop
  | [] => True
  | l :: r => (∀ W ms, l ≠ [.past W ms]) ∧ NoPast r
theorem NoPast.get {w : World} : ∀ {h : List (List Seg)}, NoPast h → ∀ (i : Nat) (W : World) (ms : List Nat), h[i]? = some [.past W ms] → W = w
  | [], _, i, _, _, e => by simp at e
  | l :: h, k, 0, W, ms, e => by simp at e; exact absurd e (k.1 W ms)
  | l :: h, k, i + 1, W, ms, e => NoPast.get k.2 i W ms (by simpa using e)
theorem bts_np (z : Bool) (N o n : Nat) (b : Nat → BitVec 8) (W : World) (ms : List Nat) : bts z N o n b ≠ [.past W ms] := by
  cases z <;> (intro e; simp [bts] at e)
/-- A law's walk: what came in is only read. -/
theorem FnR.law {P : Program} {T : List (Nat × TD)} {f : FuncId} {n : Nat} {h0 : List (List Seg)} {args : List SA} {raw : World → Prop} {w : World} {vs : List Value} {r0 : Rho} (h : FnR P T f n h0 args raw (fun x _ => x = .a (.c (.bool true)))) (hn : n = h0.length)
    (hat : AllAt r0 w h0 r0) (ha : IsAs r0 args vs) (hr : raw w) (hp : NoPast h0 := by (repeat' first | exact trivial | refine And.intro ?_ ?_ | exact Go.Proofs.Ytkjdkeolkigibaa.Sx.bts_np _ _ _ _ _ | (intro W ms e; cases e))) :
    Calls P f vs.toArray w fun e w' => e = .returned (.bool true) ∧ Below w.heap.size w w' := by
  subst hn
  refine (h w r0 vs (heapOk_ro hat hp.get) ha hr).mono ?_
  rintro e w' ⟨v, x, hs, r', rfl, hx, hok, rfl⟩
  obtain rfl : v = .bool true := hx
  refine ⟨rfl, ?_⟩
  have e : Ext ((r0.drop h0.length).map (·.1)) w w' := hok.ext
  rw [List.drop_eq_nil_of_le (by rw [hat.len]; exact Nat.le_refl _)] at e
  exact e.below0
end Sx
end Go.Proofs.Ytkjdkeolkigibaa
end

section
/-
  From a function over blocks to a law's walk: structs with slices of bytes that came in. Over any program. No condition of its own.
-/
namespace Go.Proofs.Ytkjdkeolkigibaa
set_option linter.unusedVariables false
namespace Sx
open Go.RowKit Go.ChangeShapes Go.WideShapes Sha Vi

theorem cell_spot {P : Program} {w : World} {r : Reach} {b0 : Nat} {u : TypeId} {x : Addr} {n c : Nat} (hk : Cell.okWide P w r b0 u (.slice (some x) n c)) : x.spot = none := by
  cases hu : P.underlying u with
  | none => simp only [Cell.okWide, Cell.ok, hu] at hk
  | some d =>
    cases d <;> simp only [Cell.okWide, Cell.ok, hu] at hk
    exact hk.2.2.2.1
theorem okWide_cells {P : Program} {w : World} {r : Reach} {b0 : Nat} {t : TypeId} {fs : Array Field} {cs : Array Value} (ht : P.underlying t = some (.struct fs)) (h : Value.okWide P w r b0 t (.agg cs)) {i : Nat} {a : Option Addr} {n c : Nat} (hc : cs[i]? = some (.slice a n c)) : ∀ x, a = some x → x.spot = none := by
  rintro x rfl
  simp only [Value.okWide, ht] at h
  obtain ⟨cs', e, _, ts, _, _, hcell⟩ := h
  injection e with e
  subst e
  obtain ⟨u, _, hk⟩ := hcell i _ hc
  exact cell_spot hk
theorem isL_nil (r : Rho) : IsL r [] [] := ⟨rfl, fun j x e => by simp at e⟩
theorem isL_cons {r : Rho} {x : SC} {v : Value} {l : List SC} {vs : List Value} (h : x.Is r v) (hs : IsL r l vs) : IsL r (x :: l) (v :: vs) :=
  ⟨by simpa using hs.1, fun j y e => by
    cases j with
    | zero => simp at e; subst e; exact ⟨v, rfl, h⟩
    | succ j => exact hs.2 j y e⟩
/-- What slices of bytes keep to, however long. -/
structure Sl.Fit (s : Sl) : Prop where
  fit : s.o + s.l.length ≤ s.N
  cap : s.l.length ≤ s.c
  nil : s.z = true → s.l = []
theorem Sl.Fit.ok {s : Sl} (h : s.Fit) (hs : s.l.length ≤ 1000000) : s.Ok := ⟨h.fit, h.cap, h.nil, hs⟩
/-- A slice that came in. -/
abbrev slI (z : Bool) (c : Nat) (l : Bs) : Sl := ⟨z, l.length, 0, c, l⟩
theorem InB.fit {w : World} {a : Option Addr} {n c : Nat} {z : Bool} {l : Bs} {B f : Nat} (h : InB w a n c z l B f) : (slI z c l).Fit :=
  ⟨by simp, by have := h.len; have := h.le; show l.length ≤ c; omega, h.nil⟩
end Sx
end Go.Proofs.Ytkjdkeolkigibaa
end

section
/-
  The fixed fact about what an endpoint says; any params, put and taken. No condition.
-/
namespace Go.Proofs.Ytkjdkeolkigibaa
set_option linter.unusedVariables false
namespace Sx
open Sha Vi

abbrev pmA : Pm := ⟨0#64, 0#64, 0#64, 0#64, 0#64, 0#64, 0#64, 0#64, 2#64, ⟨true, 0, 0, 0, []⟩⟩
theorem put_A : putP pmA = [1#8, 1#8, 0#8, 4#8, 1#8, 0#8, 5#8, 1#8, 0#8, 6#8, 1#8, 0#8, 7#8, 1#8, 0#8, 8#8, 1#8, 0#8, 9#8, 1#8, 0#8, 11#8, 1#8, 0#8, 14#8, 1#8, 2#8, 15#8, 0#8] := by decide +kernel
theorem check_A : checkP pmA = 0 := by decide +kernel
set_option maxRecDepth 20000 in
set_option maxHeartbeats 8000000 in
theorem fn_awake10 : FnR Try.prog tds 20 1 [[]] [] (fun _ => True) (fun y hs => y = .a (.c (.bool true)) ∧ hs = [[]]) := by
  refine fn_of_body tds_ok follows_ Try.func20 rfl (t := anys Try.f20.ntmps) rfl (fun w r0 hr _ => ?_)
  obtain ⟨x0, rfl⟩ := List.length_eq_one_iff.1 hr
  (repeat first | (refine And.intro ?_ ?_; first | exact rfl | ((exact fun h => absurd h (by first | decide)); intro yy; clear yy) | (rotate_left; (exact fun h => absurd h (by first | decide)); intro yy; clear yy) | decide | omega) | (with_reducible refine frc_bytesL (by first | omega | decide) ?_) | (with_reducible refine frc_bytesM (by first | omega | decide) ?_))
  refine call_same (fn_pput pmA nil_ok) [0] rfl (by (repeat first | exact trivial | refine ent1 ?_)) (by (repeat first | exact trivial | refine ent1 ?_)) (fun _ _ => trivial) ?_
  rintro x hs' ⟨t, ht, hl, rfl, rfl⟩
  have hl := hl check_A
  rw [put_A] at hl
  rw [check_A]
  have hz : t.z = false := ht.pos (by rw [hl]; decide)
  have hf := ht.fit
  have hcp := ht.cap
  have hlen : t.l.length = 29 := by rw [hl]; rfl
  have v1 : L t.l 27 = 15#8 := by rw [hl]; rfl
  have v2 : L t.l 28 = 0#8 := by rw [hl]; rfl
  clear hl
  obtain ⟨z, N, o, c, l⟩ := t
  dsimp only at hz hf hcp hlen v1 v2
  subst hz
  have e2 : decide ((2 : Int) < (l.length : Int)) = true := decide_eq_true (by omega)
  (repeat first | (refine And.intro ?_ ?_; first | exact rfl | ((exact fun h => absurd h (by first | decide | (rw [e2]; decide))); intro yy; clear yy) | (rotate_left; (exact fun h => absurd h (by first | decide | (rw [e2]; decide))); intro yy; clear yy) | decide | omega) | (with_reducible refine frc_bytesL (by first | omega | decide) ?_) | (with_reducible refine frc_bytesM (by first | omega | decide) ?_))
  refine And.intro (show (-9223372036854775808 : Int) ≤ (l.length : Int) - 2 ∧ (l.length : Int) - 2 ≤ 9223372036854775807 by omega) ?_
  (repeat first | (refine And.intro ?_ ?_; first | exact rfl | ((exact fun h => absurd h (by first | decide | (rw [e2]; decide))); intro yy; clear yy) | (rotate_left; (exact fun h => absurd h (by first | decide | (rw [e2]; decide))); intro yy; clear yy) | decide | omega) | (with_reducible refine frc_bytesL (by first | omega | decide) ?_) | (with_reducible refine frc_bytesM (by first | omega | decide) ?_))
  refine And.intro (show (0 : Int) ≤ (l.length : Int) - 2 ∧ (l.length : Int) - 2 < (l.length : Int) by omega) ?_
  (repeat first | (refine And.intro ?_ ?_; first | exact rfl | ((exact fun h => absurd h (by first | decide | (rw [e2]; decide))); intro yy; clear yy) | (rotate_left; (exact fun h => absurd h (by first | decide | (rw [e2]; decide))); intro yy; clear yy) | decide | omega) | (with_reducible refine frc_bytesL (by first | omega | decide) ?_) | (with_reducible refine frc_bytesM (by first | omega | decide) ?_))
  refine And.intro (show ((l.length : Int) - 2).toNat + o < N by omega) ?_
  refine frc_eq (y := .w8 15#8) (show SC.mp _ (winF o l.length (L l) (((l.length : Int) - 2).toNat + o)) = .w8 15#8 by rw [show ((l.length : Int) - 2).toNat + o = o + 27 by omega, winF_at _ _ _ (by omega), v1]; rfl) ?_
  (repeat first | (refine And.intro ?_ ?_; first | exact rfl | ((exact fun h => absurd h (by first | decide | (rw [e2]; decide))); intro yy; clear yy) | (rotate_left; (exact fun h => absurd h (by first | decide | (rw [e2]; decide))); intro yy; clear yy) | decide | omega) | (with_reducible refine frc_bytesL (by first | omega | decide) ?_) | (with_reducible refine frc_bytesM (by first | omega | decide) ?_))
  refine And.intro (show (-9223372036854775808 : Int) ≤ (l.length : Int) - 1 ∧ (l.length : Int) - 1 ≤ 9223372036854775807 by omega) ?_
  (repeat first | (refine And.intro ?_ ?_; first | exact rfl | ((exact fun h => absurd h (by first | decide | (rw [e2]; decide))); intro yy; clear yy) | (rotate_left; (exact fun h => absurd h (by first | decide | (rw [e2]; decide))); intro yy; clear yy) | decide | omega) | (with_reducible refine frc_bytesL (by first | omega | decide) ?_) | (with_reducible refine frc_bytesM (by first | omega | decide) ?_))
  refine And.intro (show (0 : Int) ≤ (l.length : Int) - 1 ∧ (l.length : Int) - 1 < (l.length : Int) by omega) ?_
  (repeat first | (refine And.intro ?_ ?_; first | exact rfl | ((exact fun h => absurd h (by first | decide | (rw [e2]; decide))); intro yy; clear yy) | (rotate_left; (exact fun h => absurd h (by first | decide | (rw [e2]; decide))); intro yy; clear yy) | decide | omega) | (with_reducible refine frc_bytesL (by first | omega | decide) ?_) | (with_reducible refine frc_bytesM (by first | omega | decide) ?_))
  refine And.intro (show ((l.length : Int) - 1).toNat + o < N by omega) ?_
  refine frc_eq (y := .w8 0#8) (show SC.mp _ (winF o l.length (L l) (((l.length : Int) - 1).toNat + o)) = .w8 0#8 by rw [show ((l.length : Int) - 1).toNat + o = o + 28 by omega, winF_at _ _ _ (by omega), v2]; rfl) ?_
  (repeat first | (refine And.intro ?_ ?_; first | exact rfl | ((exact fun h => absurd h (by first | decide | (rw [e2]; decide))); intro yy; clear yy) | (rotate_left; (exact fun h => absurd h (by first | decide | (rw [e2]; decide))); intro yy; clear yy) | decide | omega) | (with_reducible refine frc_bytesL (by first | omega | decide) ?_) | (with_reducible refine frc_bytesM (by first | omega | decide) ?_))
  refine ⟨.a (.c (.bool true)), _, ⟨[0], ⟨rfl, rfl, rfl⟩, ?_⟩, rfl, rfl⟩
  (repeat first | exact trivial | refine ent1 ?_)
theorem eqC_numsM {q : List Nat} {g : Nat → Nat} {l : List (BitVec 64)} {j : Nat} : eqC q (SC.mp g (numsF l j)) (numsF l j) True :=
  eqC_nums (f := fun j => SC.mp g (numsF l j)) (l := l) (fun j x h => by show SC.mp g (numsF l j) = SC.w64 x; unfold numsF; rw [h]; rfl) j
end Sx
end Go.Proofs.Ytkjdkeolkigibaa
end

section
/-
  Data that nobody turns any more: calls that leave a later past, results that are given up, named blocks that are lent. Over any program. No condition of its own.
-/
namespace Go.Proofs.Ytkjdkeolkigibaa
set_option linter.unusedVariables false
namespace Sx
open Go.RowKit

/-! Names given up: what they stand for. -/
def SC.rz (F : Nat → Bool) (α : Nat → Addr) : SC → SC
  | .p i b o => match F i with | true => .ptr (some ((α i).add (b + o))) | false => .p i b o
  | .sl i b o n c => match F i with | true => .slc (some ((α i).add (b + o))) n c | false => .sl i b o n c
  | .sn z i b o n c => match F i with | true => .any | false => .sn z i b o n c
  | .clo f i b o => match F i with | true => .any | false => .clo f i b o
  | .cap f i b o => match F i with | true => .any | false => .cap f i b o
  | .cap2 f i b o j c d => match F i with | true => .any | false => match F j with | true => .any | false => .cap2 f i b o j c d
  | .mh i => match F i with | true => .any | false => .mh i
  | x => x
def SC.raw : SC → SC
  | .p .. => .any
  | .sl .. => .any
  | .sn .. => .any
  | .clo .. => .any
  | .cap .. => .any
  | .cap2 .. => .any
  | .mh _ => .any
  | x => x
def Seg.rz (F : Nat → Bool) (α : Nat → Addr) : Seg → Seg
  | .one x => .one (x.rz F α)
  | .row n f => .row n (fun j => (f j).rz F α)
  | .obj m => .obj m
  | .past w ms => .past w ms
def rzL (F : Nat → Bool) (α : Nat → Addr) : List Seg → List Seg
  | [] => []
  | x :: r => x.rz F α :: rzL F α r
def SA.rz (F : Nat → Bool) (α : Nat → Addr) : SA → SA
  | .c x => .c (x.rz F α)
  | .agg l => .agg (rzL F α l)
def rzA (F : Nat → Bool) (α : Nat → Addr) : List SA → List SA
  | [] => []
  | x :: r => x.rz F α :: rzA F α r
def SV.rz (F : Nat → Bool) (α : Nat → Addr) : SV → SV
  | .any => .any
  | .a x => .a (x.rz F α)
  | .tup l => .tup (rzA F α l)
def rzH (F : Nat → Bool) (α : Nat → Addr) : List (List Seg) → List (List Seg)
  | [] => []
  | x :: r => rzL F α x :: rzH F α r
theorem flat_rz (F : Nat → Bool) (α : Nat → Addr) : ∀ l : List Seg, flat (rzL F α l) = (flat l).map (SC.rz F α)
  | [] => rfl
  | .one x :: r => by simp [rzL, Seg.rz, flat, flat_rz F α r]
  | .row n f :: r => by simp [rzL, Seg.rz, flat, flat_rz F α r, Function.comp_def]
  | .obj _ :: r => by simp [rzL, Seg.rz, flat, flat_rz F α r]
  | .past _ _ :: r => by simp [rzL, Seg.rz, flat, flat_rz F α r]
theorem rzH_eq (F : Nat → Bool) (α : Nat → Addr) : ∀ h : List (List Seg), rzH F α h = h.map (rzL F α)
  | [] => rfl
  | x :: r => by rw [rzH, rzH_eq F α r]; rfl
theorem rzA_eq (F : Nat → Bool) (α : Nat → Addr) : ∀ h : List SA, rzA F α h = h.map (SA.rz F α)
  | [] => rfl
  | x :: r => by rw [rzA, rzA_eq F α r]; rfl
theorem rzL_nil {F : Nat → Bool} {α : Nat → Addr} {l : List Seg} : rzL F α l = [] ↔ l = [] := by cases l <;> simp [rzL]
theorem rzL_obj {F : Nat → Bool} {α : Nat → Addr} {l : List Seg} {m : MapD} (h : rzL F α l = [.obj m]) : l = [.obj m] := by
  cases l with
  | nil => cases h
  | cons x r =>
    simp only [rzL, List.cons.injEq] at h
    have hr : r = [] := rzL_nil.1 h.2
    subst hr
    cases x <;> simp [Seg.rz] at h
    obtain ⟨rfl, _⟩ := h; rfl
theorem rzL_past {F : Nat → Bool} {α : Nat → Addr} {l : List Seg} {W : World} {ms : List Nat} (h : rzL F α l = [.past W ms]) : l = [.past W ms] := by
  cases l with
  | nil => cases h
  | cons x r =>
    simp only [rzL, List.cons.injEq] at h
    have hr : r = [] := rzL_nil.1 h.2
    subst hr
    cases x <;> simp [Seg.rz] at h
    obtain ⟨⟨rfl, rfl⟩, _⟩ := h; rfl
/-- Where the names of F lie. -/
def Lies (F : Nat → Bool) (α : Nat → Addr) (r : Rho) : Prop := ∀ (i B f : Nat), F i = true → r[i]? = some (B, f) → α i = ⟨B, f, none⟩
section
variable {F : Nat → Bool} {α : Nat → Addr} {r : Rho}
theorem SC.Is.rz (hα : Lies F α r) {x : SC} {v : Value} (h : x.Is r v) : (x.rz F α).Is r v := by
  cases x <;> simp only [SC.rz]
  case p i b o =>
    cases e : F i
    · exact h
    · obtain ⟨B, f, e2, rfl⟩ := h
      show _ = Value.pointer (some ((α i).add (b + o)))
      rw [hα i B f e e2, add_none]
  case sl i b o n c =>
    cases e : F i
    · exact h
    · obtain ⟨B, f, e2, rfl⟩ := h
      show _ = Value.slice (some ((α i).add (b + o))) n c
      rw [hα i B f e e2, add_none]
  case sn z i b o n c => cases e : F i; exact h; exact SC.Is.one h
  case clo z i b o => cases e : F i; exact h; exact SC.Is.one h
  case cap z i b o => cases e : F i; exact h; exact SC.Is.one h
  case cap2 z i b o j c p => cases e : F i; (cases e' : F j; exact h; exact SC.Is.one h); exact SC.Is.one h
  case mh i => cases e : F i; exact h; exact SC.Is.one h
  all_goals exact h
theorem SC.Is.raw {x : SC} {v : Value} (h : x.Is r v) : (x.raw).Is [] v := by
  cases x <;> simp only [SC.raw] <;> first | exact SC.Is.one h | exact h
theorem IsL.rz (hα : Lies F α r) {l : List SC} {vs : List Value} (h : IsL r l vs) : IsL r (l.map (SC.rz F α)) vs :=
  ⟨by simpa using h.1, fun j x e => by
    rw [List.getElem?_map, Option.map_eq_some_iff] at e
    obtain ⟨y, hy, rfl⟩ := e
    obtain ⟨v, e1, e2⟩ := h.2 j y hy
    exact ⟨v, e1, e2.rz hα⟩⟩
theorem SA.Is.rz (hα : Lies F α r) {x : SA} {v : Value} (h : x.Is r v) : (x.rz F α).Is r v := by
  cases x with
  | c x => exact SC.Is.rz hα (x := x) h
  | agg l =>
    obtain ⟨vs, e, h⟩ := h
    exact ⟨vs, e, by rw [flat_rz]; exact h.rz hα⟩
theorem SV.Is.rz (hα : Lies F α r) {x : SV} {v : Value} (h : x.Is r v) : (x.rz F α).Is r v := by
  cases x with
  | any => trivial
  | a x => exact SA.Is.rz hα (x := x) h
  | tup l =>
    obtain ⟨vs, e, hl, h⟩ := h
    refine ⟨vs, e, by rw [rzA_eq]; simpa using hl, fun j x ex => ?_⟩
    rw [rzA_eq, List.getElem?_map, Option.map_eq_some_iff] at ex
    obtain ⟨y, hy, rfl⟩ := ex
    obtain ⟨u, e1, e2⟩ := h j y hy
    exact ⟨u, e1, e2.rz hα⟩
theorem IsAs.rz (hα : Lies F α r) {l : List SA} {vs : List Value} (h : IsAs r l vs) : IsAs r (rzA F α l) vs := by
  refine ⟨by rw [rzA_eq]; simpa using h.1, fun j x ex => ?_⟩
  rw [rzA_eq, List.getElem?_map, Option.map_eq_some_iff] at ex
  obtain ⟨y, hy, rfl⟩ := ex
  obtain ⟨u, e1, e2⟩ := h.2 j y hy
  exact ⟨u, e1, e2.rz hα⟩
theorem At.rz (hα : Lies F α r) {z : Bool} {w : World} {B off : Nat} {l : List SC} (h : At z r w B off l) : At z r w B off (l.map (SC.rz F α)) := by
  intro j x e
  rw [List.getElem?_map, Option.map_eq_some_iff] at e
  obtain ⟨y, hy, rfl⟩ := e
  obtain ⟨v, e1, e2, e3⟩ := h j y hy
  exact ⟨v, e1, e2.rz hα, e3⟩
/-- What lies there, whatever its names. -/
theorem At.im {z : Bool} {w : World} {B off : Nat} {l : List SC} (h : At z r w B off l) {ms : List Nat} (hB : B < w.heap.size) (hm : B ∉ ms) : ImAt w ms ⟨B, off, none⟩ (l.map SC.raw) :=
  ⟨rfl, hB, hm, fun j x e => by
    rw [List.getElem?_map, Option.map_eq_some_iff] at e
    obtain ⟨y, hy, rfl⟩ := e
    obtain ⟨v, e1, e2, _⟩ := h j y hy
    exact ⟨v, e1, e2.raw⟩⟩
end
section
variable {C : Cx}
theorem HeapOk.rz {F : Nat → Bool} {α : Nat → Addr} {h : List (List Seg)} {r : Rho} {w : World} (ok : HeapOk C h r w) (hα : Lies F α r) : HeapOk C (rzH F α h) r w := by
  have get : ∀ (i : Nat) (ch : List Seg), (rzH F α h)[i]? = some ch → ∃ c, h[i]? = some c ∧ ch = rzL F α c := fun i ch e => by
    rw [rzH_eq, List.getElem?_map, Option.map_eq_some_iff] at e
    obtain ⟨c, h1, h2⟩ := e
    exact ⟨c, h1, h2.symm⟩
  refine ⟨ok.ext, ok.agree, ok.rol, by rw [rzH_eq, List.length_map]; exact ok.len, fun i ch B f hi hr => ?_, ok.lt, ok.own, ok.ros, fun i ch ho hl hi => ?_, fun i j B f f' ch ch' hij o1 o2 hi hj hri hrj => ?_, fun i m B f ho hi hr => ?_, fun i W ms hi => ?_⟩
  · obtain ⟨c, h1, rfl⟩ := get i ch hi
    rw [flat_rz]
    exact (ok.chunks i c B f h1 hr).rz hα
  · obtain ⟨c, h1, rfl⟩ := get i ch hi
    rw [flat_rz, ok.dead i c ho hl h1]; rfl
  · obtain ⟨c, h1, rfl⟩ := get i ch hi
    obtain ⟨c', h1', rfl⟩ := get j ch' hj
    rcases ok.apart i j B f f' c c' hij o1 o2 h1 h1' hri hrj with h | h
    · left; rw [h]; rfl
    · right; rw [h]; rfl
  · obtain ⟨c, h1, h2⟩ := get i _ hi
    exact ok.maps i m B f ho (by rw [h1, rzL_obj h2.symm]) hr
  · obtain ⟨c, h1, h2⟩ := get i _ hi
    exact ok.past i W ms (by rw [h1, rzL_past h2.symm])
/-- Another past in a past's place. -/
theorem HeapOk.setPast {h : List (List Seg)} {r : Rho} {w : World} (ok : HeapOk C h r w) {i0 : Nat} (hi0 : i0 < C.ro) {W : World} {ms : List Nat} (hp : h[i0]? = some [.past W ms]) {W' : World} {ms' : List Nat} (p1 : Ext ms' W' w)
    (p2 : ∀ B, B < C.w0.heap.size → B < W'.heap.size → B ∉ ms' → C.safe B) (p3 : ∀ (j B f : Nat), C.ro ≤ j → r[j]? = some (B, f) → B < W'.heap.size → B ∈ ms') : HeapOk C (h.set i0 [.past W' ms']) r w := by
  have hil : i0 < h.length := (List.getElem?_eq_some_iff.1 hp).1
  have get : ∀ (i : Nat) (ch : List Seg), (h.set i0 [.past W' ms'])[i]? = some ch → (i = i0 ∧ ch = [.past W' ms']) ∨ (i ≠ i0 ∧ h[i]? = some ch) := fun i ch e => by
    by_cases hi : i0 = i
    · subst hi
      rw [List.getElem?_set_self hil] at e
      injection e with e
      exact .inl ⟨rfl, e.symm⟩
    · rw [List.getElem?_set_ne hi] at e
      exact .inr ⟨fun e => hi e.symm, e⟩
  refine ⟨ok.ext, ok.agree, ok.rol, by rw [List.length_set]; exact ok.len, fun i ch B f hi hr => ?_, ok.lt, ok.own, ok.ros, fun i ch ho hl hi => ?_, fun i j B f f' ch ch' hij o1 o2 hi hj hri hrj => ?_, fun i m B f ho hi hr => ?_, fun i W2 ms2 hi => ?_⟩
  · rcases get i ch hi with ⟨_, rfl⟩ | ⟨_, e⟩
    · intro j x e; simp [flat] at e
    · exact ok.chunks i ch B f e hr
  · rcases get i ch hi with ⟨_, rfl⟩ | ⟨_, e⟩
    · rfl
    · exact ok.dead i ch ho hl e
  · rcases get i ch hi with ⟨rfl, _⟩ | ⟨_, e⟩
    · omega
    rcases get j ch' hj with ⟨rfl, _⟩ | ⟨_, e'⟩
    · omega
    exact ok.apart i j B f f' ch ch' hij o1 o2 e e' hri hrj
  · rcases get i _ hi with ⟨rfl, _⟩ | ⟨_, e⟩
    · omega
    · exact ok.maps i m B f ho e hr
  · rcases get i _ hi with ⟨_, e⟩ | ⟨_, e⟩
    · injection e with e _
      injection e with e1 e2
      subst e1; subst e2
      exact ⟨p1, p2, p3⟩
    · exact ok.past i W2 ms2 e
theorem getH_ne {h : List (List Seg)} {i : Nat} {W : World} {ms : List Nat} (e : getH h i = [.past W ms]) : h[i]? = some [.past W ms] := by
  rw [getH_eq] at e
  cases e2 : h[i]? with
  | none => rw [e2] at e; cases e
  | some c => rw [e2] at e; exact congrArg some e
/-- No past among these. -/
def NoP (hs : List (List Seg)) : Prop := ∀ (i : Nat) (W : World) (ms : List Nat), hs[i]? ≠ some [.past W ms]
theorem NoP.nil : NoP [] := fun i W ms e => by simp at e
theorem NoP.cons {c : List Seg} {hs : List (List Seg)} (hc : ∀ W ms, c ≠ [.past W ms]) (h : NoP hs) : NoP (c :: hs) := fun i W ms e => by
  cases i with
  | zero => simp at e; exact hc W ms e
  | succ i => exact h i W ms (by simpa using e)
theorem FnR.mono {P : Program} {T : List (Nat × TD)} {f : FuncId} {n : Nat} {h0 : List (List Seg)} {args : List SA} {raw : World → Prop} {Res Res' : SV → List (List Seg) → Prop} (h : FnR P T f n h0 args raw Res) (k : ∀ x hs, Res x hs → Res' x hs) : FnR P T f n h0 args raw Res' :=
  fun w r0 vs ok ha hr => (h w r0 vs ok ha hr).mono fun _ _ ⟨v, x, hs, r', e, h1, h2, h3⟩ => ⟨v, x, hs, r', e, h1, h2, k x hs h3⟩
/-- A call for which named blocks (Z) are lent as data that nobody turns: what comes back tells nothing of a past. -/
theorem call_lend {qt : Keep} {f : FuncId} {args : List SA} {t : List SV} {h : List (List Seg)} {k : SV → List (List Seg) → Prop} {n : Nat} {h0 : List (List Seg)} {raw : World → Prop} {Res : SV → List (List Seg) → Prop}
    (Z : List Nat) (i0 : Nat) (q : List Nat) {W : World} {ms : List Nat} (hq : (qOk C.ro n qt (i0 :: q) h && Nat.blt i0 C.ro && Nat.blt 0 n && allLt Z h.length && disj ((i0 :: q).drop n) Z) = true) (hp : getH h i0 = [.past W ms])
    (hE : entH (i0 :: q) h (i0 :: q) ([.past W ms] :: h0) True) (h0np : NoP h0) (hraw : ∀ w, Ext C.m C.w0 w → raw w)
    (hfn : ∀ (W' : World) (ms' : List Nat) (α : Nat → Addr), Later W ms W' ms' → (∀ i, memB i Z = true → flat (getH h i) ≠ [] → ImAt W' ms' (α i) (((flat (getH h i)).map (SC.rz (fun j => memB j Z) α)).map SC.raw)) →
      ∃ args0, eqAs (i0 :: q) (rzA (fun j => memB j Z) α args) args0 ∧ FnR C.P C.T f n ([.past W' ms'] :: h0) args0 raw Res)
    (hl : ∀ x hs, Res x hs → NoP (hs.drop 1))
    (hk : ∀ x hs, Res x hs → lenK h 0 fun N => backK (bk N (i0 :: q)) ((i0 :: q).drop n) (hs.drop n) h fun h' => k (x.mp (bk N (i0 :: q))) h') : CallVC C qt f #[] args #[] t h k := by
  intro r a w vs ok ha
  simp only [Bool.and_eq_true] at hq
  obtain ⟨⟨⟨⟨hq, hi0⟩, hn0⟩, hZ⟩, hdz⟩ := hq
  have hi0 : i0 < C.ro := by simpa using (Nat.blt_eq ▸ hi0)
  have hn0 : 0 < n := by simpa using (Nat.blt_eq ▸ hn0)
  have hZ := allLt_spec hZ
  have hdz := disj_spec hdz
  obtain ⟨ok0, pastUp⟩ := call_ok0 hq hE ok.heap
  simp only [qOk, Bool.and_eq_true] at hq
  obtain ⟨⟨⟨⟨⟨⟨h0', h1⟩, h2⟩, h3⟩, h5⟩, h6⟩, h4⟩ := hq
  have hnq := ble_le h0'
  have hn := nodup_spec h1
  have hll := allLt_spec h2
  have hst := allNe_spec h3
  have hne : ∀ i ∈ (i0 :: q).drop n, getH h i ≠ [] := fun i hi => stirs_ne (hst i hi)
  have hwr := allGe_spec h5
  have hlen := ok.heap.len
  have hqr : ∀ i ∈ (i0 :: q), i < r.length := fun i hi => by rw [hlen]; exact hll i hi
  have hp' := getH_ne hp
  have hqs : ∀ i ∈ (i0 :: q).drop n, i ∈ (i0 :: q) := fun i hi => List.mem_of_mem_drop hi
  have hm' : ∀ B, B ∈ ((rn (i0 :: q) r).drop n).map (·.1) → ∃ i, i ∈ (i0 :: q).drop n ∧ ∃ f, r[i]? = some (B, f) := by
    intro B hB
    obtain ⟨k, f, hk, e⟩ := mem_drop.1 hB
    cases hqk : (i0 :: q)[k]? with
    | none => rw [rn, List.getElem?_map, hqk] at e; cases e
    | some j =>
      rw [rn_get hqr hqk] at e
      exact ⟨j, List.mem_of_getElem? (i := k - n) (by rw [List.getElem?_drop, show n + (k - n) = k by omega]; exact hqk), f, e⟩
  have hhi : ∀ i, i < h.length → h[i]? = some (getH h i) := fun i hi => by rw [getH_eq, List.getElem?_eq_getElem hi]; rfl
  obtain ⟨ms', hms'⟩ : ∃ l, ((rn (i0 :: q) r).drop n).map (·.1) = l := ⟨_, rfl⟩
  have hL : Later W ms w ms' := ⟨(ok.heap.past i0 W ms hp').1, fun B h1 h2 hc => by
    rw [← hms'] at hc
    obtain ⟨i, hi, f, e⟩ := hm' B hc
    exact h2 ((ok.heap.past i0 W ms hp').2.2 i B f (hwr i hi) e h1)⟩
  let α : Nat → Addr := fun i => match r[i]? with
    | some (B, f) => ⟨B, f, none⟩
    | none => ⟨0, 0, none⟩
  have hα : Lies (fun j => memB j Z) α r := fun i B f _ e => by simp only [α, e]
  obtain ⟨args0, hA, hf⟩ := hfn w ms' α hL (fun i hi hfl => by
    have hi := memB_iff.1 hi
    have hil := hZ i hi
    obtain ⟨⟨B, f⟩, hr⟩ : ∃ x, r[i]? = some x := ⟨_, List.getElem?_eq_getElem (by rw [hlen]; exact hil)⟩
    have hAt := (ok.heap.chunk hr).rz hα
    have e : α i = ⟨B, f, none⟩ := by simp only [α, hr]
    rw [e]
    refine hAt.im ((ok.heap.chunk hr).lt hfl) fun hc => ?_
    rw [← hms'] at hc
    obtain ⟨j, hj, f', hr'⟩ := hm' B hc
    have hij : i ≠ j := fun e => hdz i hi (e ▸ hj)
    exact hfl (ok.heap.sep hij (hwr j hj) (hhi i hil) (hhi j (hll j (hqs j hj))) hr hr' (hne j hj)))
  -- the callee's past is the world as it is
  have ok1 : HeapOk (cx0 C.P C.T w (rn (i0 :: q) r) n ([.past w ms'] :: h0)) ([.past w ms'] :: h0) (rn (i0 :: q) r) w := by
    refine ⟨ok0.ext, ok0.agree, ok0.rol, ok0.len, fun i ch B f hi hr => ?_, ok0.lt, ok0.own, fun i B f ho hlv hr => ?_, fun i ch ho hlv hi => ?_, fun i j B f f' ch ch' hij o1 o2 hi hj hri hrj => ?_, fun i m B f ho hi hr => ?_, fun i W2 ms2 hi => ?_⟩
    · cases i with
      | zero => simp at hi; subst hi; intro j x e; simp [flat] at e
      | succ i => exact ok0.chunks (i + 1) ch B f (by simpa using hi) hr
    · refine ok0.ros i B f ho ?_ hr
      cases i with
      | zero => exact absurd rfl hlv
      | succ i => exact hlv
    · refine (?_ : flat ch = [])
      cases i with
      | zero => simp at hi; subst hi; rfl
      | succ i => exact ok0.dead (i + 1) ch ho (fun hc => hlv hc) (by simpa using hi)
    · have o1 : n ≤ i := o1
      have o2 : n ≤ j := o2
      refine ok0.apart i j B f f' ch ch' hij o1 o2 ?_ ?_ hri hrj
      · cases i with
        | zero => omega
        | succ i => simpa using hi
      · cases j with
        | zero => omega
        | succ j => simpa using hj
    · have o1 : n ≤ i := ho
      refine ok0.maps i m B f ho ?_ hr
      cases i with
      | zero => omega
      | succ i => simpa using hi
    · cases i with
      | zero =>
        simp at hi
        obtain ⟨rfl, rfl⟩ := hi
        refine ⟨Ext.refl _ _, fun B _ h2 h3 => ⟨0, _, _, rfl, h2, h3⟩, fun j B f ho hr _ => ?_⟩
        rw [← hms']
        exact mem_drop.2 ⟨j, f, ho, hr⟩
      | succ i => exact absurd (by simpa using hi) (h0np i W2 ms2)
  have hcall := hf w (rn (i0 :: q) r) vs ok1 (eqAs_spec hqr hA (ha.rz hα)) (hraw w ok.heap.ext)
  have hargs : (#[] : Array Value) ++ vs.toArray ++ #[] = vs.toArray := by simp
  rw [hargs]
  refine hcall.mono ?_
  rintro e w' ⟨v, x, hs, r', rfl, hx, hok, hres⟩
  have hlen' : r'.length = hs.length := hok.len
  have hql : (rn (i0 :: q) r).length ≤ r'.length := hok.rlen
  have hqlen : (rn (i0 :: q) r).length = q.length + 1 := by simp [rn]
  obtain ⟨c, hs', rfl⟩ : ∃ c hs', hs = c :: hs' := by
    cases hs with
    | nil => rw [List.length_nil] at hlen'; omega
    | cons c hs' => exact ⟨c, hs', rfl⟩
  have hnp : NoP hs' := hl x _ hres
  -- what the callee's past says is dropped
  have hok2 : HeapOk ⟨C.P, C.T, w, ((rn (i0 :: q) r).drop n).map (·.1), rn (i0 :: q) r, n, fun i => flat (getH ([.past w ms'] :: h0) i) ≠ [], fun _ => False⟩ ([] :: hs') r' w' := by
    refine ⟨hok.ext, hok.agree, hok.rol, hok.len, fun i ch B f hi hr => ?_, hok.lt, hok.own, hok.ros, fun i ch ho hlv hi => ?_, fun i j B f f' ch ch' hij o1 o2 hi hj hri hrj => ?_, fun i m B f ho hi hr => ?_, fun i W2 ms2 hi => ?_⟩
    · cases i with
      | zero => simp at hi; subst hi; intro j x e; simp [flat] at e
      | succ i => exact hok.chunks (i + 1) ch B f (by simpa using hi) hr
    · cases i with
      | zero => simp at hi; subst hi; rfl
      | succ i => exact hok.dead (i + 1) ch ho hlv (by simpa using hi)
    · have o1 : n ≤ i := o1
      have o2 : n ≤ j := o2
      refine hok.apart i j B f f' ch ch' hij o1 o2 ?_ ?_ hri hrj
      · cases i with
        | zero => omega
        | succ i => simpa using hi
      · cases j with
        | zero => omega
        | succ j => simpa using hj
    · have o1 : n ≤ i := ho
      refine hok.maps i m B f ho ?_ hr
      cases i with
      | zero => omega
      | succ i => simpa using hi
    · cases i with
      | zero => simp at hi
      | succ i => exact absurd (by simpa using hi) (hnp i W2 ms2)
  obtain ⟨o1, o2, o3, o4, o5, o6, o7⟩ := ok.heap.back hnq hn hll hne hwr (fun B hB => hB.elim) hok2
  have hk' := hk x _ hres
  obtain ⟨n', rfl⟩ : ∃ n', n = n' + 1 := ⟨n - 1, by omega⟩
  rw [lenK_eq, Nat.zero_add, backK_eq] at hk'
  exact ⟨v, _, _, _, rfl, hx.mp o3, o2, o1, frm_back hqr hll hst hwr h4 ok.heap hok2 hnq o4 o1 o5 (fun _ => .of fun i W ms hi => o6 i W ms (fun hc => by
    have := hst i hc
    rw [getH_eq, hi] at this
    cases this) hi) o7, hk'⟩
/-! Functions that give up what they made. -/
def FinW (C : Cx) (v : SV) (h : List (List Seg)) (Res : SV → List (List Seg) → Prop) : Prop := ∀ (r : Rho) (w : World) (u : Value), HeapOk C h r w → v.Is r u → ∃ x hs r', SV.Is r' x u ∧ HeapOk C hs r' w ∧ Res x hs
theorem FinW.of {v : SV} {h : List (List Seg)} {Res : SV → List (List Seg) → Prop} (k : ∃ x hs, Fin C v h x hs ∧ Res x hs) : FinW C v h Res := fun r w u ok hu => by
  obtain ⟨x, hs, hf, hr⟩ := k
  obtain ⟨r', h1, h2⟩ := hf.ok hu ok
  exact ⟨x, hs, r', h1, h2, hr⟩
theorem cx0_m {P : Program} {T : List (Nat × TD)} {w : World} {r0 : Rho} {n : Nat} {h0 : List (List Seg)} : ∀ B ∈ (cx0 P T w r0 n h0).m, ∃ (j f : Nat), (cx0 P T w r0 n h0).ro ≤ j ∧ (cx0 P T w r0 n h0).r0[j]? = some (B, f) := fun B hB => by
  obtain ⟨j, f, h1, h2⟩ := mem_drop.1 hB
  exact ⟨j, f, h1, h2⟩
end
end Sx
end Go.Proofs.Ytkjdkeolkigibaa
end
