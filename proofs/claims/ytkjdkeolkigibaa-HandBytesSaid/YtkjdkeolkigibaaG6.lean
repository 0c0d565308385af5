/-
  Texts of this claim, part 6: PmC, VwA, VwB, VwC, PmD, PmE, PmF, PmL, VrA, PmG, PmH, Sxw, Sxv, Sxs, PmI, HnA. No condition of its own.
-/
import Derived.OpenShut
import Derived.ChangeArms
import Derived.Test.YtkjdkeolkigibaaG5
section
/-
  What an endpoint says, taken out of bytes. No condition.
-/
namespace Go.Proofs.Ytkjdkeolkigibaa
set_option linter.unusedVariables false
namespace Vi
open Sha Sx
def isP (D : Said) (src : Bs) (p : Pm) : Prop := p.a0 = lookK 1#64 0#64 D ∧ p.a1 = lookK 4#64 0#64 D ∧ p.a2 = lookK 5#64 0#64 D ∧ p.a3 = lookK 6#64 0#64 D ∧ p.a4 = lookK 7#64 0#64 D ∧
  p.a5 = lookK 8#64 0#64 D ∧ p.a6 = lookK 9#64 0#64 D ∧ p.a7 = lookK 11#64 0#64 D ∧ p.a8 = lookK 14#64 0#64 D ∧ p.s.l = src
/-- Nothing is said. -/
abbrev pm0 : Pm := ⟨0#64, 0#64, 0#64, 0#64, 0#64, 0#64, 0#64, 0#64, 0#64, ⟨true, 0, 0, 0, []⟩⟩
def takeP (l : Bs) (e : Int) (p : Pm) : Prop := match allP l.length l.length l [] [] with
  | (f, D, src) => (f ≠ 0 → e = f ∧ p = pm0) ∧ (f = 0 → (hasK 15#64 D = false → e = 17 ∧ p = pm0) ∧
    (hasK 15#64 D = true → ∃ q, q.s.Ok ∧ isP (idsP D) src q ∧ (checkP q ≠ 0 → e = checkP q ∧ p = pm0) ∧ (checkP q = 0 → e = 0 ∧ p = q)))
theorem takeP_bad {l src : Bs} {D : Said} {e : Int} (h : allP l.length l.length l [] [] = (e, D, src)) (he : e ≠ 0) : takeP l e pm0 := by
  unfold takeP
  rw [h]
  exact ⟨fun _ => ⟨rfl, rfl⟩, fun h => absurd h he⟩
theorem nextM_len {l l' : Bs} {e e' : Int} {x : BitVec 64 × Nat × Bool} (h : nextM l e = (x, l', e')) : l'.length ≤ l.length ∧ (e' = 0 → l'.length < l.length) := by
  unfold nextM at h
  split at h
  · simp only [Prod.mk.injEq] at h
    obtain ⟨_, rfl, rfl⟩ := h
    exact ⟨Nat.le_refl _, fun h => absurd h (by assumption)⟩
  · split at h
    · simp only [Prod.mk.injEq] at h
      obtain ⟨_, rfl, rfl⟩ := h
      exact ⟨Nat.zero_le _, fun h => absurd h (by assumption)⟩
    · simp only [Prod.mk.injEq] at h
      obtain ⟨_, rfl, rfl⟩ := h
      have := takeM_le (l := l) (n := (takeM l).1) (k := (takeM l).2.1) (e := (takeM l).2.2) rfl
      have h2 := this.2 (by omega)
      simp only [List.length_drop]
      exact ⟨by omega, fun _ => by omega⟩
theorem longM_len {l l' v : Bs} {e e' : Int} {m : Nat} (h : longM l e m = (v, l', e')) : l'.length ≤ l.length ∧ (e ≠ 0 → e' ≠ 0) := by
  unfold longM countM at h
  rcases hn : nextM l e with ⟨⟨n, k, b⟩, l1, e1⟩
  have h1 := nextM_len hn
  have h2 : e ≠ 0 → e1 ≠ 0 := fun he => by
    unfold nextM at hn
    rw [if_pos he] at hn
    simp only [Prod.mk.injEq] at hn
    obtain ⟨_, _, rfl⟩ := hn
    exact he
  have hb : ∀ (l1 : Bs) (e1 : Int) (c : Int), bytesM l1 e1 c = (v, l', e') → l'.length ≤ l1.length ∧ (e1 ≠ 0 → e' ≠ 0) := by
    intro l1 e1 c hb
    unfold bytesM at hb
    split at hb
    · simp only [Prod.mk.injEq] at hb
      obtain ⟨_, rfl, rfl⟩ := hb
      exact ⟨Nat.le_refl _, fun h => h⟩
    · split at hb
      · simp only [Prod.mk.injEq] at hb
        obtain ⟨_, rfl, rfl⟩ := hb
        exact ⟨Nat.zero_le _, fun h => by decide⟩
      · simp only [Prod.mk.injEq] at hb
        obtain ⟨_, rfl, rfl⟩ := hb
        exact ⟨by simp, fun h => absurd h (by assumption)⟩
  rw [hn] at h
  simp only at h
  split at h
  · have := hb _ _ _ h
    dsimp only at this h1
    exact ⟨by omega, fun he => this.2 (h2 he)⟩
  · split at h
    · have := hb _ _ _ h
      simp only [List.length_nil] at this
      exact ⟨by omega, fun _ => this.2 (by decide)⟩
    · have := hb _ _ _ h
      dsimp only at this h1
      exact ⟨by omega, fun he => this.2 (h2 he)⟩
theorem one_shorter {l l1 l2 v : Bs} {x : BitVec 64 × Nat × Bool} {e1 e2 : Int} {m : Nat} (h1 : nextM l 0 = (x, l1, e1)) (h2 : longM l1 e1 m = (v, l2, e2)) (h : e2 = 0) : l2.length < l.length := by
  have a := nextM_len h1
  have b := longM_len h2
  have : e1 = 0 := Classical.byContradiction fun hc => b.2 hc h
  have := a.2 this
  omega
theorem takeP_none {l src : Bs} {D : Said} (h : allP l.length l.length l [] [] = (0, D, src)) (hk : hasK 15#64 D = false) : takeP l 17 pm0 := by
  unfold takeP
  rw [h]
  exact ⟨fun h => absurd rfl h, fun _ => ⟨fun _ => ⟨rfl, rfl⟩, fun h => by rw [hk] at h; exact Bool.noConfusion h⟩⟩
theorem takeP_ok {l src : Bs} {D : Said} {e : Int} {p q : Pm} (h : allP l.length l.length l [] [] = (0, D, src)) (hk : hasK 15#64 D = true) (hq : q.s.Ok) (hi : isP (idsP D) src q) (hc : (checkP q ≠ 0 ∧ e = checkP q ∧ p = pm0) ∨ (checkP q = 0 ∧ e = 0 ∧ p = q)) : takeP l e p := by
  unfold takeP
  rw [h]
  refine ⟨fun h => absurd rfl h, fun _ => ⟨fun h => by rw [hk] at h; exact Bool.noConfusion h, fun _ => ⟨q, hq, hi, fun h => ?_, fun h => ?_⟩⟩⟩
  · rcases hc with ⟨_, h2⟩ | ⟨h1, _⟩
    · exact h2
    · exact absurd h1 h
  · rcases hc with ⟨h1, _⟩ | ⟨_, h2⟩
    · exact absurd h h1
    · exact h2
section
variable {m k : Nat} {l l1 l2 v src : Bs} {D D2 : Said} {id : BitVec 64} {b : Bool} {e1 e2 g : Int}
theorem oneP_err (h1 : nextM l 0 = ((id, k, b), l1, e1)) (h2 : longM l1 e1 m = (v, l2, e2)) (h : e2 ≠ 0) : oneP m l D src = (e2, [], D, src) := by
  unfold oneP
  rw [h1]
  simp only [h2]
  rw [if_pos h]
theorem oneP_two (h1 : nextM l 0 = ((id, k, b), l1, e1)) (h2 : longM l1 e1 m = (v, l2, e2)) (h : e2 = 0) (hk : hasK id D = true) : oneP m l D src = (18, [], D, src) := by
  unfold oneP
  rw [h1]
  simp only [h2]
  rw [if_neg (by omega), if_pos hk]
theorem oneP_own (h1 : nextM l 0 = ((id, k, b), l1, e1)) (h2 : longM l1 e1 m = (v, l2, e2)) (h : e2 = 0) (hk : hasK id D = false) (ho : ownM id v D = (g, D2)) (hg : g ≠ 0) : oneP m l D src = (g, [], D, src) := by
  unfold oneP
  rw [h1]
  simp only [h2]
  rw [if_neg (by omega), if_neg (by rw [hk]; exact Bool.noConfusion), ho]
  simp [hg]
theorem oneP_ok (h1 : nextM l 0 = ((id, k, b), l1, e1)) (h2 : longM l1 e1 m = (v, l2, e2)) (h : e2 = 0) (hk : hasK id D = false) (ho : ownM id v D = (0, D2)) : oneP m l D src = (0, l2, D2, if id = 15#64 then v else src) := by
  unfold oneP
  rw [h1]
  simp only [h2]
  rw [if_neg (by omega), if_neg (by rw [hk]; exact Bool.noConfusion), ho]
  simp
end
end Vi
namespace Sx
open Sha Vi

set_option maxRecDepth 20000 in
set_option maxHeartbeats 4000000 in
theorem fn_ptake (s : Sl) (hs : s.Ok) : FnR Try.prog tds 25 1 [svB s] [.c (svC 0 s)] (fun _ => True)
    (fun y hs => ∃ p e, takeP s.l e p ∧ p.s.Ok ∧ y = .tup [.agg (pmC 1 p), .c (.int .i64 e)] ∧ hs = [svB s, svB p.s]) := by
  refine fn_of_body tds_ok follows_ Try.func25 rfl (t := .a (.c (svC 0 s)) :: anys (Try.f25.ntmps - 1)) rfl (fun w r0 hr _ => ?_)
  obtain ⟨x0, rfl⟩ := List.length_eq_one_iff.1 hr
  (repeat first | (refine And.intro ?_ ?_; first | exact rfl | ((exact fun h => absurd h (by first | decide)); intro yy; clear yy) | (rotate_left; (exact fun h => absurd h (by first | decide)); intro yy; clear yy) | decide | omega) | (with_reducible refine frc_bytesL (by first | omega | decide) ?_) | (with_reducible refine frc_bytesM (by first | omega | decide) ?_))
  refine call_same (fn_vread s hs) [0] rfl (by (repeat first | exact trivial | refine ent1 ?_)) ?_ (fun _ _ => trivial) ?_
  · refine eqC_bts ?_
    (repeat first | exact trivial | refine ent1 ?_)
  rintro x hs' ⟨A, r, hAl, hr, rfl, rfl⟩
  (repeat first | (refine And.intro ?_ ?_; first | exact rfl | ((exact fun h => absurd h (by first | decide)); intro yy; clear yy) | (rotate_left; (exact fun h => absurd h (by first | decide)); intro yy; clear yy) | decide | omega) | (with_reducible refine frc_bytesL (by first | omega | decide) ?_) | (with_reducible refine frc_bytesM (by first | omega | decide) ?_))
  refine .inl ⟨Bs × RS × Said × Sl, fun x => ⟨[.a (.c (svC 0 s)), .any, .a (.c (.p 1 0 0)), .a (.c (.int .i64 (0))), .a (.c (.mh 2)), .a (.c (svC 5 x.2.2.2)), .a (.c (.p 3 0 0)), .any, .any, .any, .any, .any, .any, .any, .any, .any, .any, .any, .any, .any, .any, .any, .any, .any, .any, .any, .any, .any, .any, .any, .any, .any, .any, .any, .any, .any, .any, .any, .any, .any, .any, .any, .any, .any, .any, .any, .any, .any, .any, .any, .any, .any, .any, .any, .any, .any, .any, .any, .any, .any, .any, .any, .any, .any, .any, .any, .any, .any, .any, .any, .any, .any, .any, .any, .any, .any, .any, .any, .any, .any, .any, .any, .any, .any, .any, .any, .any, .any, .any, .any, .any, .any, .any, .any, .any, .any, .any, .any, .any, .any, .any, .any, .any, .any, .any, .any, .any, .any], [svB s, pmC 1 pm0, [.obj (.w64 x.2.2.1)], rdCi 4 x.2.1, svB A, svB x.2.2.2]⟩,
    fun x => RdI A x.2.1 x.1 0 ∧ x.2.2.2.Ok ∧ ∃ f, x.1.length ≤ f ∧ allP s.l.length f x.1 x.2.2.1 x.2.2.2.l = allP s.l.length s.l.length s.l [] [], fun x => x.1.length, ⟨(s.l, r, [], ⟨true, 0, 0, 0, []⟩), [0, 1, 2, 3, 4, 4], ⟨⟨rfl, rfl, rfl⟩, ?_⟩, ⟨hr, nil_ok, _, Nat.le_refl _, rfl⟩⟩, fun x => ?_⟩
  · (repeat first | exact trivial | refine ent1 ?_)
    refine eqC_bts ?_
    (repeat first | exact trivial | refine ent1 ?_)
    refine eqC_btsM ?_
    (repeat first | exact trivial | refine ent1 ?_)
    refine eqSegs_nil ?_
    (repeat first | exact trivial | refine ent1 ?_)
  obtain ⟨l, r, D, src⟩ := x
  rintro ⟨hr, hsrc, f, hf, hall⟩
  dsimp only at hr hsrc hf hall ⊢
  (repeat first | (refine And.intro ?_ ?_; first | exact rfl | ((exact fun h => absurd h (by first | decide)); intro yy; clear yy) | (rotate_left; (exact fun h => absurd h (by first | decide)); intro yy; clear yy) | decide | omega) | (with_reducible refine frc_bytesL (by first | omega | decide) ?_) | (with_reducible refine frc_bytesM (by first | omega | decide) ?_))
  refine call_same (fn_rleft A r hr) [4, 3] rfl (by (repeat first | exact trivial | refine ent1 ?_)) ?_ (fun _ _ => trivial) ?_
  · refine eqC_bts ?_
    (repeat first | exact trivial | refine ent1 ?_)
  rintro x hs' ⟨rfl, rfl⟩
  by_cases h0 : l.length = 0
  · have e0 : decide ((0 : Int) < (l.length : Int)) = false := decide_eq_false (by omega)
    (repeat first | (refine And.intro ?_ ?_; first | exact rfl | ((exact fun h => absurd h (by first | decide | (rw [e0]; decide))); intro yy; clear yy) | (rotate_left; (exact fun h => absurd h (by first | decide | (rw [e0]; decide))); intro yy; clear yy) | decide | omega) | (with_reducible refine frc_bytesL (by first | omega | decide) ?_) | (with_reducible refine frc_bytesM (by first | omega | decide) ?_))
    have hl0 : l = [] := List.eq_nil_of_length_eq_zero h0
    have hres : allP s.l.length s.l.length s.l [] [] = (0, D, src.l) := by rw [← hall, hl0, allP_end]
    (repeat first | (refine And.intro ?_ ?_; first | exact rfl | ((exact fun h => absurd h (by first | decide)); intro yy; clear yy) | (rotate_left; (exact fun h => absurd h (by first | decide)); intro yy; clear yy) | decide | omega) | (with_reducible refine frc_bytesL (by first | omega | decide) ?_) | (with_reducible refine frc_bytesM (by first | omega | decide) ?_))
    by_cases g1 : hasK 15#64 D = true
    rotate_left
    · have g1 : hasK 15#64 D = false := by simpa using g1
      have k1 : (!hasK 15#64 D) = true := by rw [g1]; rfl
      (repeat first | (refine And.intro ?_ ?_; first | exact rfl | ((exact fun h => absurd h (by first | decide | (rw [k1]; decide))); intro yy; clear yy) | (rotate_left; (exact fun h => absurd h (by first | decide | (rw [k1]; decide))); intro yy; clear yy) | decide | omega) | (with_reducible refine frc_bytesL (by first | omega | decide) ?_) | (with_reducible refine frc_bytesM (by first | omega | decide) ?_))
      (repeat first | refine And.intro (by omega) ?_ | refine And.intro (by decide) ?_ | (with_reducible refine frc_parts (by first | omega | decide) ?_) | (with_reducible refine frc_bytesL (by first | omega | decide) ?_) | refine And.intro rfl ?_)
      refine ⟨.tup [.agg (pmC 1 pm0), .c (.int .i64 17)], _, ⟨[0, 1], ⟨rfl, rfl, rfl⟩, ?_⟩, pm0, 17, takeP_none hres g1, nil_ok, rfl, rfl⟩
      (repeat first | exact trivial | refine ent1 ?_)
      refine eqC_bts ?_
      (repeat first | exact trivial | refine ent1 ?_)
    have k1 : (!hasK 15#64 D) = false := by rw [g1]; rfl
    (repeat first | (refine And.intro ?_ ?_; first | exact rfl | ((exact fun h => absurd h (by first | decide | (rw [k1]; decide))); intro yy; clear yy) | (rotate_left; (exact fun h => absurd h (by first | decide | (rw [k1]; decide))); intro yy; clear yy) | decide | omega) | (with_reducible refine frc_bytesL (by first | omega | decide) ?_) | (with_reducible refine frc_bytesM (by first | omega | decide) ?_))
    (repeat first | (refine And.intro ?_ ?_; first | exact rfl | ((exact fun h => absurd h (by first | decide)); intro yy; clear yy) | (rotate_left; (exact fun h => absurd h (by first | decide)); intro yy; clear yy) | decide | omega) | (with_reducible refine frc_bytesL (by first | omega | decide) ?_) | (with_reducible refine frc_bytesM (by first | omega | decide) ?_))
    by_cases g2 : hasK 14#64 D = true
    · have k2 : (!hasK 14#64 D) = false := by rw [g2]; rfl
      have hD : idsP D = D := by unfold idsP; rw [if_pos g2]
      (repeat first | (refine And.intro ?_ ?_; first | exact rfl | ((exact fun h => absurd h (by first | decide | (rw [k2]; decide))); intro yy; clear yy) | (rotate_left; (exact fun h => absurd h (by first | decide | (rw [k2]; decide))); intro yy; clear yy) | decide | omega) | (with_reducible refine frc_bytesL (by first | omega | decide) ?_) | (with_reducible refine frc_bytesM (by first | omega | decide) ?_))
      (repeat first | (refine And.intro ?_ ?_; first | exact rfl | ((exact fun h => absurd h (by first | decide)); intro yy; clear yy) | (rotate_left; (exact fun h => absurd h (by first | decide)); intro yy; clear yy) | decide | omega) | (with_reducible refine frc_bytesL (by first | omega | decide) ?_) | (with_reducible refine frc_bytesM (by first | omega | decide) ?_))
      obtain ⟨q, hq⟩ : ∃ q : Pm, q = ⟨lookK 1#64 0#64 (D), lookK 4#64 0#64 (D), lookK 5#64 0#64 (D), lookK 6#64 0#64 (D), lookK 7#64 0#64 (D), lookK 8#64 0#64 (D), lookK 9#64 0#64 (D), lookK 11#64 0#64 (D), lookK 14#64 0#64 (D), src⟩ := ⟨_, rfl⟩
      have hisP : isP (idsP D) src.l q := by rw [hD, hq]; exact ⟨rfl, rfl, rfl, rfl, rfl, rfl, rfl, rfl, rfl, rfl⟩
      have hqs : q.s = src := by rw [hq]
      refine call_same (fn_pmcheck q) [5] rfl (by subst hq; (repeat first | exact trivial | refine ent1 ?_)) (by subst hq; refine eqC_bts ?_; (repeat first | exact trivial | refine ent1 ?_)) (fun _ _ => trivial) ?_
      rintro x hs' ⟨rfl, rfl⟩
      by_cases g3 : checkP q = 0
      · have k3 : decide (checkP q ≠ 0) = false := decide_eq_false (by omega)
        (repeat first | (refine And.intro ?_ ?_; first | exact rfl | ((exact fun h => absurd h (by first | decide | (rw [k3]; decide))); intro yy; clear yy) | (rotate_left; (exact fun h => absurd h (by first | decide | (rw [k3]; decide))); intro yy; clear yy) | decide | omega) | (with_reducible refine frc_bytesL (by first | omega | decide) ?_) | (with_reducible refine frc_bytesM (by first | omega | decide) ?_))
        (repeat first | refine And.intro (by omega) ?_ | refine And.intro (by decide) ?_ | (with_reducible refine frc_parts (by first | omega | decide) ?_) | (with_reducible refine frc_bytesL (by first | omega | decide) ?_) | refine And.intro rfl ?_)
        refine ⟨.tup [.agg (pmC 1 q), .c (.int .i64 0)], _, ⟨[0, 5], ⟨rfl, rfl, rfl⟩, ?_⟩, q, 0, takeP_ok hres g1 (by rw [hqs]; exact hsrc) hisP (.inr ⟨g3, rfl, rfl⟩), by rw [hqs]; exact hsrc, rfl, rfl⟩
        subst hq
        (repeat first | exact trivial | refine ent1 ?_)
        refine eqC_bts ?_
        (repeat first | exact trivial | refine ent1 ?_)
        refine eqC_bts ?_
        (repeat first | exact trivial | refine ent1 ?_)
      · have k3 : decide (checkP q ≠ 0) = true := decide_eq_true g3
        (repeat first | (refine And.intro ?_ ?_; first | exact rfl | ((exact fun h => absurd h (by first | decide | (rw [k3]; decide))); intro yy; clear yy) | (rotate_left; (exact fun h => absurd h (by first | decide | (rw [k3]; decide))); intro yy; clear yy) | decide | omega) | (with_reducible refine frc_bytesL (by first | omega | decide) ?_) | (with_reducible refine frc_bytesM (by first | omega | decide) ?_))
        (repeat first | refine And.intro (by omega) ?_ | refine And.intro (by decide) ?_ | (with_reducible refine frc_parts (by first | omega | decide) ?_) | (with_reducible refine frc_bytesL (by first | omega | decide) ?_) | refine And.intro rfl ?_)
        refine ⟨.tup [.agg (pmC 1 pm0), .c (.int .i64 (checkP q))], _, ⟨[0, 1], ⟨rfl, rfl, rfl⟩, ?_⟩, pm0, checkP q, takeP_ok hres g1 (by rw [hqs]; exact hsrc) hisP (.inl ⟨g3, rfl, rfl⟩), nil_ok, rfl, rfl⟩
        (repeat first | exact trivial | refine ent1 ?_)
        refine eqC_bts ?_
        (repeat first | exact trivial | refine ent1 ?_)
    have k2 : (!hasK 14#64 D) = true := by rw [show hasK 14#64 D = false by simpa using g2]; rfl
    have hD : idsP D = putK 14#64 2#64 D := by unfold idsP; rw [if_neg g2]
    (repeat first | (refine And.intro ?_ ?_; first | exact rfl | ((exact fun h => absurd h (by first | decide | (rw [k2]; decide))); intro yy; clear yy) | (rotate_left; (exact fun h => absurd h (by first | decide | (rw [k2]; decide))); intro yy; clear yy) | decide | omega) | (with_reducible refine frc_bytesL (by first | omega | decide) ?_) | (with_reducible refine frc_bytesM (by first | omega | decide) ?_))
    (repeat first | (refine And.intro ?_ ?_; first | exact rfl | ((exact fun h => absurd h (by first | decide)); intro yy; clear yy) | (rotate_left; (exact fun h => absurd h (by first | decide)); intro yy; clear yy) | decide | omega) | (with_reducible refine frc_bytesL (by first | omega | decide) ?_) | (with_reducible refine frc_bytesM (by first | omega | decide) ?_))
    obtain ⟨q, hq⟩ : ∃ q : Pm, q = ⟨lookK 1#64 0#64 (putK 14#64 2#64 D), lookK 4#64 0#64 (putK 14#64 2#64 D), lookK 5#64 0#64 (putK 14#64 2#64 D), lookK 6#64 0#64 (putK 14#64 2#64 D), lookK 7#64 0#64 (putK 14#64 2#64 D), lookK 8#64 0#64 (putK 14#64 2#64 D), lookK 9#64 0#64 (putK 14#64 2#64 D), lookK 11#64 0#64 (putK 14#64 2#64 D), lookK 14#64 0#64 (putK 14#64 2#64 D), src⟩ := ⟨_, rfl⟩
    have hisP : isP (idsP D) src.l q := by rw [hD, hq]; exact ⟨rfl, rfl, rfl, rfl, rfl, rfl, rfl, rfl, rfl, rfl⟩
    have hqs : q.s = src := by rw [hq]
    refine call_same (fn_pmcheck q) [5] rfl (by subst hq; (repeat first | exact trivial | refine ent1 ?_)) (by subst hq; refine eqC_bts ?_; (repeat first | exact trivial | refine ent1 ?_)) (fun _ _ => trivial) ?_
    rintro x hs' ⟨rfl, rfl⟩
    by_cases g3 : checkP q = 0
    · have k3 : decide (checkP q ≠ 0) = false := decide_eq_false (by omega)
      (repeat first | (refine And.intro ?_ ?_; first | exact rfl | ((exact fun h => absurd h (by first | decide | (rw [k3]; decide))); intro yy; clear yy) | (rotate_left; (exact fun h => absurd h (by first | decide | (rw [k3]; decide))); intro yy; clear yy) | decide | omega) | (with_reducible refine frc_bytesL (by first | omega | decide) ?_) | (with_reducible refine frc_bytesM (by first | omega | decide) ?_))
      (repeat first | refine And.intro (by omega) ?_ | refine And.intro (by decide) ?_ | (with_reducible refine frc_parts (by first | omega | decide) ?_) | (with_reducible refine frc_bytesL (by first | omega | decide) ?_) | refine And.intro rfl ?_)
      refine ⟨.tup [.agg (pmC 1 q), .c (.int .i64 0)], _, ⟨[0, 5], ⟨rfl, rfl, rfl⟩, ?_⟩, q, 0, takeP_ok hres g1 (by rw [hqs]; exact hsrc) hisP (.inr ⟨g3, rfl, rfl⟩), by rw [hqs]; exact hsrc, rfl, rfl⟩
      subst hq
      (repeat first | exact trivial | refine ent1 ?_)
      refine eqC_bts ?_
      (repeat first | exact trivial | refine ent1 ?_)
      refine eqC_bts ?_
      (repeat first | exact trivial | refine ent1 ?_)
    · have k3 : decide (checkP q ≠ 0) = true := decide_eq_true g3
      (repeat first | (refine And.intro ?_ ?_; first | exact rfl | ((exact fun h => absurd h (by first | decide | (rw [k3]; decide))); intro yy; clear yy) | (rotate_left; (exact fun h => absurd h (by first | decide | (rw [k3]; decide))); intro yy; clear yy) | decide | omega) | (with_reducible refine frc_bytesL (by first | omega | decide) ?_) | (with_reducible refine frc_bytesM (by first | omega | decide) ?_))
      (repeat first | refine And.intro (by omega) ?_ | refine And.intro (by decide) ?_ | (with_reducible refine frc_parts (by first | omega | decide) ?_) | (with_reducible refine frc_bytesL (by first | omega | decide) ?_) | refine And.intro rfl ?_)
      refine ⟨.tup [.agg (pmC 1 pm0), .c (.int .i64 (checkP q))], _, ⟨[0, 1], ⟨rfl, rfl, rfl⟩, ?_⟩, pm0, checkP q, takeP_ok hres g1 (by rw [hqs]; exact hsrc) hisP (.inl ⟨g3, rfl, rfl⟩), nil_ok, rfl, rfl⟩
      (repeat first | exact trivial | refine ent1 ?_)
      refine eqC_bts ?_
      (repeat first | exact trivial | refine ent1 ?_)
  have e0 : decide ((0 : Int) < (l.length : Int)) = true := decide_eq_true (by omega)
  (repeat first | (refine And.intro ?_ ?_; first | exact rfl | ((exact fun h => absurd h (by first | decide | (rw [e0]; decide))); intro yy; clear yy) | (rotate_left; (exact fun h => absurd h (by first | decide | (rw [e0]; decide))); intro yy; clear yy) | decide | omega) | (with_reducible refine frc_bytesL (by first | omega | decide) ?_) | (with_reducible refine frc_bytesM (by first | omega | decide) ?_))
  refine call_same (fn_rint A r hr) [4, 3] rfl (by (repeat first | exact trivial | refine ent1 ?_)) ?_ (fun _ _ => trivial) ?_
  · refine eqC_bts ?_
    (repeat first | exact trivial | refine ent1 ?_)
  rintro x hs' ⟨id, k, b, r1, l1, e1', hx1, hr1, rfl, rfl⟩
  (repeat first | (refine And.intro ?_ ?_; first | exact rfl | ((exact fun h => absurd h (by first | decide)); intro yy; clear yy) | (rotate_left; (exact fun h => absurd h (by first | decide)); intro yy; clear yy) | decide | omega) | (with_reducible refine frc_bytesL (by first | omega | decide) ?_) | (with_reducible refine frc_bytesM (by first | omega | decide) ?_))
  refine call_same (fn_rlong A r1 s.l.length hr1 hs.small) [4, 3] rfl (by (repeat first | exact trivial | refine ent1 ?_)) ?_ (fun _ _ => trivial) ?_
  · refine eqC_bts ?_
    (repeat first | exact trivial | refine ent1 ?_)
  rintro x hs' ⟨v, r2, l2, e2', hx2, hr2, hv, rfl, rfl⟩
  (repeat first | (refine And.intro ?_ ?_; first | exact rfl | ((exact fun h => absurd h (by first | decide)); intro yy; clear yy) | (rotate_left; (exact fun h => absurd h (by first | decide)); intro yy; clear yy) | decide | omega) | (with_reducible refine frc_bytesL (by first | omega | decide) ?_) | (with_reducible refine frc_bytesM (by first | omega | decide) ?_))
  refine call_same (fn_rerr A r2 hr2) [4, 3] rfl (by (repeat first | exact trivial | refine ent1 ?_)) ?_ (fun _ _ => trivial) ?_
  · refine eqC_bts ?_
    (repeat first | exact trivial | refine ent1 ?_)
  rintro x hs' ⟨rfl, rfl⟩
  by_cases h2 : e2' = 0
  rotate_left
  · have e2 : decide (e2' ≠ 0) = true := decide_eq_true h2
    (repeat first | (refine And.intro ?_ ?_; first | exact rfl | ((exact fun h => absurd h (by first | decide | (rw [e2]; decide))); intro yy; clear yy) | (rotate_left; (exact fun h => absurd h (by first | decide | (rw [e2]; decide))); intro yy; clear yy) | decide | omega) | (with_reducible refine frc_bytesL (by first | omega | decide) ?_) | (with_reducible refine frc_bytesM (by first | omega | decide) ?_))
    (repeat first | refine And.intro (by omega) ?_ | refine And.intro (by decide) ?_ | (with_reducible refine frc_parts (by first | omega | decide) ?_) | (with_reducible refine frc_bytesL (by first | omega | decide) ?_) | refine And.intro rfl ?_)
    refine ⟨.tup [.agg (pmC 1 pm0), .c (.int .i64 e2')], _, ⟨[0, 1], ⟨rfl, rfl, rfl⟩, ?_⟩, pm0, e2', ?_, nil_ok, rfl, rfl⟩
    · (repeat first | exact trivial | refine ent1 ?_)
      refine eqC_bts ?_
      (repeat first | exact trivial | refine ent1 ?_)
    · obtain ⟨f, rfl⟩ : ∃ g, f = g + 1 := ⟨f - 1, by omega⟩
      exact takeP_bad (by rw [← hall]; exact allP_bad h0 (oneP_err hx1 hx2 h2) h2) h2
  have e2 : decide (e2' ≠ 0) = false := decide_eq_false (by omega)
  (repeat first | (refine And.intro ?_ ?_; first | exact rfl | ((exact fun h => absurd h (by first | decide | (rw [e2]; decide))); intro yy; clear yy) | (rotate_left; (exact fun h => absurd h (by first | decide | (rw [e2]; decide))); intro yy; clear yy) | decide | omega) | (with_reducible refine frc_bytesL (by first | omega | decide) ?_) | (with_reducible refine frc_bytesM (by first | omega | decide) ?_))
  (repeat first | (refine And.intro ?_ ?_; first | exact rfl | ((exact fun h => absurd h (by first | decide)); intro yy; clear yy) | (rotate_left; (exact fun h => absurd h (by first | decide)); intro yy; clear yy) | decide | omega) | (with_reducible refine frc_bytesL (by first | omega | decide) ?_) | (with_reducible refine frc_bytesM (by first | omega | decide) ?_))
  by_cases h3 : hasK id D = true
  · (repeat first | (refine And.intro ?_ ?_; first | exact rfl | ((exact fun h => absurd h (by first | decide | (rw [h3]; decide))); intro yy; clear yy) | (rotate_left; (exact fun h => absurd h (by first | decide | (rw [h3]; decide))); intro yy; clear yy) | decide | omega) | (with_reducible refine frc_bytesL (by first | omega | decide) ?_) | (with_reducible refine frc_bytesM (by first | omega | decide) ?_))
    (repeat first | refine And.intro (by omega) ?_ | refine And.intro (by decide) ?_ | (with_reducible refine frc_parts (by first | omega | decide) ?_) | (with_reducible refine frc_bytesL (by first | omega | decide) ?_) | refine And.intro rfl ?_)
    refine ⟨.tup [.agg (pmC 1 pm0), .c (.int .i64 18)], _, ⟨[0, 1], ⟨rfl, rfl, rfl⟩, ?_⟩, pm0, 18, ?_, nil_ok, rfl, rfl⟩
    · (repeat first | exact trivial | refine ent1 ?_)
      refine eqC_bts ?_
      (repeat first | exact trivial | refine ent1 ?_)
    · obtain ⟨f, rfl⟩ : ∃ g, f = g + 1 := ⟨f - 1, by omega⟩
      exact takeP_bad (by rw [← hall]; exact allP_bad h0 (oneP_two hx1 hx2 h2 h3) (by decide)) (by decide)
  have h3 : hasK id D = false := by simpa using h3
  (repeat first | (refine And.intro ?_ ?_; first | exact rfl | ((exact fun h => absurd h (by first | decide | (rw [h3]; decide))); intro yy; clear yy) | (rotate_left; (exact fun h => absurd h (by first | decide | (rw [h3]; decide))); intro yy; clear yy) | decide | omega) | (with_reducible refine frc_bytesL (by first | omega | decide) ?_) | (with_reducible refine frc_bytesM (by first | omega | decide) ?_))
  (repeat first | (refine And.intro ?_ ?_; first | exact rfl | ((exact fun h => absurd h (by first | decide)); intro yy; clear yy) | (rotate_left; (exact fun h => absurd h (by first | decide)); intro yy; clear yy) | decide | omega) | (with_reducible refine frc_bytesL (by first | omega | decide) ?_) | (with_reducible refine frc_bytesM (by first | omega | decide) ?_))
  by_cases h4 : id = 15#64
  · have e4 : decide (id = 15#64) = true := decide_eq_true h4
    have e5 : numId id = false := by rw [h4]; rfl
    (repeat first | (refine And.intro ?_ ?_; first | exact rfl | ((exact fun h => absurd h (by first | decide | (rw [e4]; decide))); intro yy; clear yy) | (rotate_left; (exact fun h => absurd h (by first | decide | (rw [e4]; decide))); intro yy; clear yy) | decide | omega) | (with_reducible refine frc_bytesL (by first | omega | decide) ?_) | (with_reducible refine frc_bytesM (by first | omega | decide) ?_))
    (repeat first | (refine And.intro ?_ ?_; first | exact rfl | ((exact fun h => absurd h (by first | decide)); intro yy; clear yy) | (rotate_left; (exact fun h => absurd h (by first | decide)); intro yy; clear yy) | decide | omega) | (with_reducible refine frc_bytesL (by first | omega | decide) ?_) | (with_reducible refine frc_bytesM (by first | omega | decide) ?_))
    refine call_same (fn_isnum id) [] rfl (by (repeat first | exact trivial | refine ent1 ?_)) trivial (fun _ _ => trivial) ?_
    rintro x hs' ⟨rfl, rfl⟩
    (repeat first | (refine And.intro ?_ ?_; first | exact rfl | ((exact fun h => absurd h (by first | decide | (rw [e5]; decide))); intro yy; clear yy) | (rotate_left; (exact fun h => absurd h (by first | decide | (rw [e5]; decide))); intro yy; clear yy) | decide | omega) | (with_reducible refine frc_bytesL (by first | omega | decide) ?_) | (with_reducible refine frc_bytesM (by first | omega | decide) ?_))
    (repeat first | (refine And.intro ?_ ?_; first | exact rfl | ((exact fun h => absurd h (by first | decide)); intro yy; clear yy) | (rotate_left; (exact fun h => absurd h (by first | decide)); intro yy; clear yy) | decide | omega) | (with_reducible refine frc_bytesL (by first | omega | decide) ?_) | (with_reducible refine frc_bytesM (by first | omega | decide) ?_))
    have ho : ownM id v.l D = (0, putK id 0#64 D) := by unfold ownM; rw [e5]
    obtain ⟨f, rfl⟩ : ∃ g, f = g + 1 := ⟨f - 1, by omega⟩
    have hlt := one_shorter hx1 hx2 h2
    refine ⟨(l2, r2, putK id 0#64 D, v), [0, 1, 2, 3, 4, 6], ⟨⟨rfl, rfl, rfl⟩, ?_⟩, ⟨h2 ▸ hr2, hv, f, by dsimp only; omega, by dsimp only; rw [← hall, allP_step h0 (oneP_ok hx1 hx2 h2 h3 ho), if_pos h4]⟩, hlt⟩
    (repeat first | exact trivial | refine ent1 ?_)
    refine eqC_bts ?_
    (repeat first | exact trivial | refine ent1 ?_)
    refine eqC_bts ?_
    (repeat first | exact trivial | refine ent1 ?_)
    refine eqC_btsM ?_
    (repeat first | exact trivial | refine ent1 ?_)
  have e4 : decide (id = 15#64) = false := decide_eq_false h4
  (repeat first | (refine And.intro ?_ ?_; first | exact rfl | ((exact fun h => absurd h (by first | decide | (rw [e4]; decide))); intro yy; clear yy) | (rotate_left; (exact fun h => absurd h (by first | decide | (rw [e4]; decide))); intro yy; clear yy) | decide | omega) | (with_reducible refine frc_bytesL (by first | omega | decide) ?_) | (with_reducible refine frc_bytesM (by first | omega | decide) ?_))
  (repeat first | (refine And.intro ?_ ?_; first | exact rfl | ((exact fun h => absurd h (by first | decide)); intro yy; clear yy) | (rotate_left; (exact fun h => absurd h (by first | decide)); intro yy; clear yy) | decide | omega) | (with_reducible refine frc_bytesL (by first | omega | decide) ?_) | (with_reducible refine frc_bytesM (by first | omega | decide) ?_))
  refine call_same (fn_isnum id) [] rfl (by (repeat first | exact trivial | refine ent1 ?_)) trivial (fun _ _ => trivial) ?_
  rintro x hs' ⟨rfl, rfl⟩
  by_cases h5 : numId id = true
  rotate_left
  · have e5 : numId id = false := by simpa using h5
    (repeat first | (refine And.intro ?_ ?_; first | exact rfl | ((exact fun h => absurd h (by first | decide | (rw [e5]; decide))); intro yy; clear yy) | (rotate_left; (exact fun h => absurd h (by first | decide | (rw [e5]; decide))); intro yy; clear yy) | decide | omega) | (with_reducible refine frc_bytesL (by first | omega | decide) ?_) | (with_reducible refine frc_bytesM (by first | omega | decide) ?_))
    (repeat first | (refine And.intro ?_ ?_; first | exact rfl | ((exact fun h => absurd h (by first | decide)); intro yy; clear yy) | (rotate_left; (exact fun h => absurd h (by first | decide)); intro yy; clear yy) | decide | omega) | (with_reducible refine frc_bytesL (by first | omega | decide) ?_) | (with_reducible refine frc_bytesM (by first | omega | decide) ?_))
    have ho : ownM id v.l D = (0, putK id 0#64 D) := by unfold ownM; rw [e5]
    obtain ⟨f, rfl⟩ : ∃ g, f = g + 1 := ⟨f - 1, by omega⟩
    have hlt := one_shorter hx1 hx2 h2
    refine ⟨(l2, r2, putK id 0#64 D, src), [0, 1, 2, 3, 4, 5], ⟨⟨rfl, rfl, rfl⟩, ?_⟩, ⟨h2 ▸ hr2, hsrc, f, by dsimp only; omega, by dsimp only; rw [← hall, allP_step h0 (oneP_ok hx1 hx2 h2 h3 ho), if_neg h4]⟩, hlt⟩
    (repeat first | exact trivial | refine ent1 ?_)
    refine eqC_bts ?_
    (repeat first | exact trivial | refine ent1 ?_)
    refine eqC_bts ?_
    (repeat first | exact trivial | refine ent1 ?_)
    refine eqC_bts ?_
    (repeat first | exact trivial | refine ent1 ?_)
  (repeat first | (refine And.intro ?_ ?_; first | exact rfl | ((exact fun h => absurd h (by first | decide | (rw [h5]; decide))); intro yy; clear yy) | (rotate_left; (exact fun h => absurd h (by first | decide | (rw [h5]; decide))); intro yy; clear yy) | decide | omega) | (with_reducible refine frc_bytesL (by first | omega | decide) ?_) | (with_reducible refine frc_bytesM (by first | omega | decide) ?_))
  refine call_same (fn_vread v hv) [6] rfl (by (repeat first | exact trivial | refine ent1 ?_)) ?_ (fun _ _ => trivial) ?_
  · refine eqC_btsM ?_
    (repeat first | exact trivial | refine ent1 ?_)
  rintro x hs' ⟨B, r3, hBl, hr3, rfl, rfl⟩
  (repeat first | (refine And.intro ?_ ?_; first | exact rfl | ((exact fun h => absurd h (by first | decide)); intro yy; clear yy) | (rotate_left; (exact fun h => absurd h (by first | decide)); intro yy; clear yy) | decide | omega) | (with_reducible refine frc_bytesL (by first | omega | decide) ?_) | (with_reducible refine frc_bytesM (by first | omega | decide) ?_))
  refine call_same (fn_rint B r3 hr3) [8, 7] rfl (by (repeat first | exact trivial | refine ent1 ?_)) ?_ (fun _ _ => trivial) ?_
  · refine eqC_btsM ?_
    (repeat first | exact trivial | refine ent1 ?_)
  rintro x hs' ⟨n, k2, b2, r4, l4, e4', hx4, hr4, rfl, rfl⟩
  (repeat first | (refine And.intro ?_ ?_; first | exact rfl | ((exact fun h => absurd h (by first | decide)); intro yy; clear yy) | (rotate_left; (exact fun h => absurd h (by first | decide)); intro yy; clear yy) | decide | omega) | (with_reducible refine frc_bytesL (by first | omega | decide) ?_) | (with_reducible refine frc_bytesM (by first | omega | decide) ?_))
  refine call_same (fn_rend B r4 hr4) [8, 7] rfl (by (repeat first | exact trivial | refine ent1 ?_)) ?_ (fun _ _ => trivial) ?_
  · refine eqC_btsM ?_
    (repeat first | exact trivial | refine ent1 ?_)
  rintro x hs' ⟨r5, l5, e5', hx5, hr5, rfl, rfl⟩
  have ho : ownM id v.l D = (e5', putK id n (putK id 0#64 D)) := by
    unfold ownM
    rw [h5]
    simp only [hx4, hx5]
  obtain ⟨f, rfl⟩ : ∃ g, f = g + 1 := ⟨f - 1, by omega⟩
  by_cases h6 : e5' = 0
  rotate_left
  · have e6 : decide (e5' ≠ 0) = true := decide_eq_true h6
    (repeat first | (refine And.intro ?_ ?_; first | exact rfl | ((exact fun h => absurd h (by first | decide | (rw [e6]; decide))); intro yy; clear yy) | (rotate_left; (exact fun h => absurd h (by first | decide | (rw [e6]; decide))); intro yy; clear yy) | decide | omega) | (with_reducible refine frc_bytesL (by first | omega | decide) ?_) | (with_reducible refine frc_bytesM (by first | omega | decide) ?_))
    (repeat first | refine And.intro (by omega) ?_ | refine And.intro (by decide) ?_ | (with_reducible refine frc_parts (by first | omega | decide) ?_) | (with_reducible refine frc_bytesL (by first | omega | decide) ?_) | refine And.intro rfl ?_)
    refine ⟨.tup [.agg (pmC 1 pm0), .c (.int .i64 e5')], _, ⟨[0, 1], ⟨rfl, rfl, rfl⟩, ?_⟩, pm0, e5', ?_, nil_ok, rfl, rfl⟩
    · (repeat first | exact trivial | refine ent1 ?_)
      refine eqC_bts ?_
      (repeat first | exact trivial | refine ent1 ?_)
    · exact takeP_bad (by rw [← hall]; exact allP_bad h0 (oneP_own hx1 hx2 h2 h3 ho h6) h6) h6
  have e6 : decide (e5' ≠ 0) = false := decide_eq_false (by omega)
  (repeat first | (refine And.intro ?_ ?_; first | exact rfl | ((exact fun h => absurd h (by first | decide | (rw [e6]; decide))); intro yy; clear yy) | (rotate_left; (exact fun h => absurd h (by first | decide | (rw [e6]; decide))); intro yy; clear yy) | decide | omega) | (with_reducible refine frc_bytesL (by first | omega | decide) ?_) | (with_reducible refine frc_bytesM (by first | omega | decide) ?_))
  (repeat first | (refine And.intro ?_ ?_; first | exact rfl | ((exact fun h => absurd h (by first | decide)); intro yy; clear yy) | (rotate_left; (exact fun h => absurd h (by first | decide)); intro yy; clear yy) | decide | omega) | (with_reducible refine frc_bytesL (by first | omega | decide) ?_) | (with_reducible refine frc_bytesM (by first | omega | decide) ?_))
  have hlt := one_shorter hx1 hx2 h2
  refine ⟨(l2, r2, putK id n (putK id 0#64 D), src), [0, 1, 2, 3, 4, 5], ⟨⟨rfl, rfl, rfl⟩, ?_⟩, ⟨h2 ▸ hr2, hsrc, f, by dsimp only; omega, by dsimp only; rw [← hall, allP_step h0 (oneP_ok hx1 hx2 h2 h3 (by rw [ho, h6])), if_neg h4]⟩, hlt⟩
  (repeat first | exact trivial | refine ent1 ?_)
  refine eqC_bts ?_
  (repeat first | exact trivial | refine ent1 ?_)
  refine eqC_bts ?_
  (repeat first | exact trivial | refine ent1 ?_)
  refine eqC_bts ?_
  (repeat first | exact trivial | refine ent1 ?_)
end Sx
end Go.Proofs.Ytkjdkeolkigibaa
end

section
/-
  The program's numbers put behind other bytes: mark, attach. No condition.
-/
namespace Go.Proofs.Ytkjdkeolkigibaa
set_option linter.unusedVariables false
namespace Vi
open Sha
/-- The first j bytes of k, without what tells how many there are. -/
def partL (n : BitVec 64) (k j : Nat) : Bs := tab j fun i => byteN n (k - 1 - i)
@[simp] theorem partL_len (n : BitVec 64) (k j : Nat) : (partL n k j).length = j := tab_len _ _
theorem L_part {n : BitVec 64} {k j i : Nat} (h : i < j) : L (partL n k j) i = byteN n (k - 1 - i) := L_tab h
theorem L_wide {n : BitVec 64} {k i : Nat} (h : i < k) : L (wideL n k) i = if i = 0 then byteN n (k - 1) ||| markB k else byteN n (k - 1 - i) := L_tab h
theorem partL_succ (n : BitVec 64) (k j : Nat) : partL n k (j + 1) = partL n k j ++ [byteN n (k - 1 - j)] := by
  unfold partL tab
  rw [List.range_succ, List.map_append]
  rfl
theorem partL_one (n : BitVec 64) (k : Nat) : partL n k 1 = [byteN n (k - 1)] := rfl
theorem shl8 : ∀ i : Nat, i < 8 → (8#64 * BitVec.ofInt 64 (i : Int)).toNat = 8 * i := by decide +kernel
theorem byte_at (n : BitVec 64) (k j : Nat) (hj : j < k) (hk : k ≤ 8) : BitVec.setWidth 8 (n >>> (8#64 * BitVec.ofInt 64 ((k : Int) - 1 - (j : Int))).toNat) = byteN n (k - 1 - j) := by
  rw [show (k : Int) - 1 - (j : Int) = ((k - 1 - j : Nat) : Int) by omega, shl8 _ (by omega)]
  rfl
end Vi
namespace Sx
open Sha Vi

/-- Bytes of an own slice, room behind them. -/
abbrev lsC (b : Bs) (c : Nat) : List Seg := [.row c (bytesF b.length (L b))]
theorem fn_vmark (k : Nat) (hk : okSz k) : Fn Try.prog tds 77 [] [.c (.int .i64 (k : Nat))] (fun _ => True) (fun x hs => x = .tup [.c (.w8 (markB k)), .c (.bool true)] ∧ hs = []) := by
  refine fn_of_body tds_ok follows_ Try.func77 rfl (t := .a (.c (.int .i64 (k : Nat))) :: anys (Try.f77.ntmps - 1)) rfl (fun w r0 hr _ => ?_)
  obtain rfl : r0 = [] := List.eq_nil_of_length_eq_zero hr
  rcases hk with rfl | rfl | rfl | rfl
  · refine ⟨fun h => ?_, fun h => absurd h (by decide)⟩
    exact ⟨.tup [.c (.w8 0#8), .c (.bool true)], [], ⟨[], ⟨rfl, rfl, rfl⟩, rfl, rfl, trivial⟩, rfl, rfl⟩
  · refine ⟨fun h => absurd h (by decide), fun _ => ⟨fun h => ?_, fun h => absurd h (by decide)⟩⟩
    exact ⟨.tup [.c (.w8 64#8), .c (.bool true)], [], ⟨[], ⟨rfl, rfl, rfl⟩, rfl, rfl, trivial⟩, rfl, rfl⟩
  · refine ⟨fun h => absurd h (by decide), fun _ => ⟨fun h => absurd h (by decide), fun _ => ⟨fun h => ?_, fun h => absurd h (by decide)⟩⟩⟩
    exact ⟨.tup [.c (.w8 128#8), .c (.bool true)], [], ⟨[], ⟨rfl, rfl, rfl⟩, rfl, rfl, trivial⟩, rfl, rfl⟩
  · refine ⟨fun h => absurd h (by decide), fun _ => ⟨fun h => absurd h (by decide), fun _ => ⟨fun h => absurd h (by decide), fun _ => ⟨fun h => ?_, fun h => absurd h (by decide)⟩⟩⟩⟩
    exact ⟨.tup [.c (.w8 192#8), .c (.bool true)], [], ⟨[], ⟨rfl, rfl, rfl⟩, rfl, rfl, trivial⟩, rfl, rfl⟩
theorem wide_row {b : Bs} {n : BitVec 64} {j : Nat} (hj : 1 ≤ j) (i : Nat) (hi : i < b.length + j) :
    upd (bytesF (b.length + j) (L (b ++ partL n j j))) b.length (.w8 (L (b ++ partL n j j) b.length ||| markB j)) i = .w8 (L (b ++ wideL n j) i) := by
  refine upd_bytes (by omega) (congrArg SC.w8 ?_) (fun q hq => ?_) i hi
  · rw [L_app, L_app, if_neg (by omega), if_neg (by omega), Nat.sub_self, L_part (by omega), L_wide (by omega), if_pos rfl, Nat.sub_zero]
  · by_cases h : q < b.length + j
    · rw [L_app, L_app]
      by_cases h1 : q < b.length
      · rw [if_pos h1, if_pos h1]
      · rw [if_neg h1, if_neg h1, L_part (by omega), L_wide (by omega), if_neg (by omega)]
    · have e1 : (b ++ partL n j j).length ≤ q := by simp; omega
      have e2 : (b ++ wideL n j).length ≤ q := by simp; omega
      unfold L
      rw [List.getD_eq_getElem?_getD, List.getD_eq_getElem?_getD, List.getElem?_eq_none e1, List.getElem?_eq_none e2]
set_option maxRecDepth 20000 in
theorem fn_vattach (b : Bs) (c : Nat) (n : BitVec 64) (k : Nat) (hk : okSz k) (hb : b.length ≤ 1000000) (hc : b.length ≤ c) : Fn Try.prog tds 78 [lsC b c] [.c (.sl 0 0 0 b.length c), .c (.w64 n), .c (.int .i64 (k : Nat))] (fun _ => True)
    (fun x hs => ∃ c', b.length + k ≤ c' ∧ x = .a (.c (.sl 1 0 0 (b ++ wideL n k).length c')) ∧ hs = [[], lsC (b ++ wideL n k) c']) := by
  refine fn_of_body tds_ok follows_ Try.func78 rfl (t := [.a (.c (.sl 0 0 0 b.length c)), .a (.c (.w64 (n))), .a (.c (.int .i64 ((k : Nat)))), .any, .any, .any, .any, .any, .any, .any, .any, .any, .any, .any, .any, .any, .any, .any, .any, .any, .any, .any, .any, .any, .any, .any, .any, .any, .any, .any, .any, .any, .any, .any, .any, .any, .any, .any, .any, .any, .any]) rfl (fun w r0 hr _ => ?_)
  obtain ⟨x0, rfl⟩ := List.length_eq_one_iff.1 hr
  have hk8 : 1 ≤ k ∧ k ≤ 8 := by rcases hk with rfl | rfl | rfl | rfl <;> omega
  (repeat first | refine And.intro (by omega) ?_ | refine And.intro (by decide) ?_ | (with_reducible refine frc_parts (by first | omega | decide) ?_) | (with_reducible refine frc_bytesL (by first | omega | decide) ?_) | refine And.intro rfl ?_)
  refine call_same (fn_vmark k hk) [] rfl (by (repeat first | exact trivial | refine ent1 ?_)) trivial (fun _ _ => trivial) ?_
  rintro x hs ⟨rfl, rfl⟩
  (repeat first | refine And.intro (by omega) ?_ | refine And.intro (by decide) ?_ | (with_reducible refine frc_parts (by first | omega | decide) ?_) | (with_reducible refine frc_bytesL (by first | omega | decide) ?_) | refine And.intro rfl ?_)
  refine .inl ⟨Option (Nat × Nat), fun x => match x with
    | none => ⟨[.a (.c (.sl 0 0 0 b.length c)), .a (.c (.w64 (n))), .a (.c (.int .i64 ((k : Nat)))), .any, .any, .any, .any, .a (.c (.w8 (markB k))), .any, .a (.c (.int .i64 ((b.length : Nat)))), .a (.c (.int .i64 ((k : Int) - 1))), .any, .any, .any, .any, .any, .any, .any, .any, .any, .any, .any, .any, .any, .any, .any, .any, .any, .any, .any, .any, .any, .any, .any, .any, .any, .any, .any, .any, .any, .any], [lsC b c]⟩
    | some (j, c') => ⟨[.a (.c (.sl 1 0 0 (b.length + j) c')), .a (.c (.w64 (n))), .a (.c (.int .i64 ((k : Nat)))), .any, .any, .any, .any, .a (.c (.w8 (markB k))), .any, .a (.c (.int .i64 ((b.length : Nat)))), .a (.c (.int .i64 ((k : Int) - 1 - (j : Int)))), .any, .any, .any, .any, .any, .any, .any, .any, .any, .any, .any, .any, .any, .any, .any, .any, .any, .any, .any, .any, .any, .any, .any, .any, .any, .any, .any, .any, .any, .any], [[], [.row c' (bytesF (b.length + j) (L (b ++ partL n k j)))]]⟩,
    fun x => match x with
    | none => True
    | some (j, c') => 1 ≤ j ∧ j ≤ k ∧ b.length + j ≤ c', fun x => match x with
    | none => 9
    | some (j, _) => 8 - j, ⟨none, [0], ⟨⟨rfl, rfl, rfl⟩, ?_⟩, trivial⟩, fun x => ?_⟩
  · (repeat first | exact trivial | refine ent1 ?_)
  rcases x with _ | ⟨j, c'⟩
  · intro _
    have e1 : decide (0 ≤ (k : Int) - 1) = true := decide_eq_true (by omega)
    (repeat first | refine And.intro (by omega) ?_ | refine And.intro (by decide) ?_ | refine And.intro rfl ?_ | refine And.intro (fun _ => ?_) (fun h => Bool.noConfusion h) | refine And.intro (fun h => Bool.noConfusion h) (fun _ => ?_) | refine And.intro (fun _ => ?_) (fun h => absurd h (by rw [e1]; decide)) | refine And.intro (fun h => absurd h (by rw [e1]; decide)) (fun _ => ?_))
    refine ⟨⟨by omega, by simp only [scale]; omega, by show (b.length + 1) * 1 ≤ 140737488355328; omega⟩, fun c' hc' => ?_⟩
    refine ⟨⟨by omega, by omega⟩, some (1, c'), [0, 2], ⟨⟨rfl, rfl, rfl⟩, ?_⟩, ⟨by omega, by omega, by omega⟩, by show 8 - 1 < 9; omega⟩
    (repeat first | exact trivial | refine ent1 ?_)
    refine ⟨fun j hj => eqC_bytes (fun i hi => ?_) j, trivial⟩
    rw [partL_one]
    exact app_row rfl rfl (fun i hi => bytesF_lt hi) (fun i hi => one_row (by have := byte_at n k 0 (by omega) (by omega); simpa using this) i hi) i hi
  · rintro ⟨h1, h2, h3⟩
    refine ⟨fun h => ?_, fun h => ?_⟩
    · have hj : j < k := by have : (0 : Int) ≤ (k : Int) - 1 - j := of_decide_eq_true h; omega
      (repeat first | refine And.intro (by omega) ?_ | refine And.intro (by decide) ?_ | (with_reducible refine frc_parts (by first | omega | decide) ?_) | (with_reducible refine frc_bytesL (by first | omega | decide) ?_) | refine And.intro rfl ?_)
      refine ⟨⟨by omega, by simp only [scale]; omega, by show (b.length + j + 1) * 1 ≤ 140737488355328; omega⟩, fun c2 hc2 => ?_⟩
      refine ⟨⟨by omega, by omega⟩, some (j + 1, c2), [0, 3], ⟨⟨rfl, rfl, rfl⟩, ?_⟩, ⟨by omega, by omega, by omega⟩, by dsimp only; omega⟩
      (repeat first | exact trivial | refine ent1 ?_)
      refine ⟨fun j' hj' => eqC_bytes (fun i hi => ?_) j', trivial⟩
      rw [partL_succ, ← List.append_assoc]
      exact app_row (by simp) rfl (fun i hi => bytesF_lt hi) (fun i hi => one_row (byte_at n k j hj (by omega)) i hi) i hi
    · obtain rfl : j = k := by have : ¬ (0 : Int) ≤ (k : Int) - 1 - j := of_decide_eq_false h; omega
      (repeat first | refine And.intro (by omega) ?_ | refine And.intro (by decide) ?_ | (with_reducible refine frc_parts (by first | omega | decide) ?_) | (with_reducible refine frc_bytesL (by first | omega | decide) ?_) | refine And.intro rfl ?_)
      refine ⟨.a (.c (.sl 1 0 0 (b ++ wideL n j).length c')), _, ⟨[0, 1], ⟨rfl, rfl, rfl⟩, ?_⟩, c', h3, rfl, rfl⟩
      refine ⟨rfl, by simp, rfl, ?_⟩
      (repeat first | exact trivial | refine ent1 ?_)
      refine ⟨fun i hi => eqC_bytes (fun i hi => ?_) i, trivial⟩
      have hi : i < b.length + j := by simpa using hi
      exact wide_row (by omega) i hi
set_option maxRecDepth 20000 in
theorem fn_vattach0 (n : BitVec 64) (k : Nat) (hk : okSz k) : Fn Try.prog tds 78 [] [.c (.slc none 0 0), .c (.w64 n), .c (.int .i64 (k : Nat))] (fun _ => True)
    (fun x hs => ∃ c', k ≤ c' ∧ x = .a (.c (.sl 0 0 0 (wideL n k).length c')) ∧ hs = [lsC (wideL n k) c']) := by
  refine fn_of_body tds_ok follows_ Try.func78 rfl (t := [.a (.c (.slc none 0 0)), .a (.c (.w64 (n))), .a (.c (.int .i64 ((k : Nat)))), .any, .any, .any, .any, .any, .any, .any, .any, .any, .any, .any, .any, .any, .any, .any, .any, .any, .any, .any, .any, .any, .any, .any, .any, .any, .any, .any, .any, .any, .any, .any, .any, .any, .any, .any, .any, .any, .any]) rfl (fun w r0 hr _ => ?_)
  obtain rfl : r0 = [] := List.eq_nil_of_length_eq_zero hr
  have hk8 : 1 ≤ k ∧ k ≤ 8 := by rcases hk with rfl | rfl | rfl | rfl <;> omega
  (repeat first | refine And.intro (by omega) ?_ | refine And.intro (by decide) ?_ | (with_reducible refine frc_parts (by first | omega | decide) ?_) | (with_reducible refine frc_bytesL (by first | omega | decide) ?_) | refine And.intro rfl ?_)
  refine call_same (fn_vmark k hk) [] rfl (by (repeat first | exact trivial | refine ent1 ?_)) trivial (fun _ _ => trivial) ?_
  rintro x hs ⟨rfl, rfl⟩
  (repeat first | refine And.intro (by omega) ?_ | refine And.intro (by decide) ?_ | (with_reducible refine frc_parts (by first | omega | decide) ?_) | (with_reducible refine frc_bytesL (by first | omega | decide) ?_) | refine And.intro rfl ?_)
  refine .inl ⟨Option (Nat × Nat), fun x => match x with
    | none => ⟨[.a (.c (.slc none 0 0)), .a (.c (.w64 (n))), .a (.c (.int .i64 ((k : Nat)))), .any, .any, .any, .any, .a (.c (.w8 (markB k))), .any, .a (.c (.int .i64 (0))), .a (.c (.int .i64 ((k : Int) - 1))), .any, .any, .any, .any, .any, .any, .any, .any, .any, .any, .any, .any, .any, .any, .any, .any, .any, .any, .any, .any, .any, .any, .any, .any, .any, .any, .any, .any, .any, .any], []⟩
    | some (j, c') => ⟨[.a (.c (.sl 0 0 0 j c')), .a (.c (.w64 (n))), .a (.c (.int .i64 ((k : Nat)))), .any, .any, .any, .any, .a (.c (.w8 (markB k))), .any, .a (.c (.int .i64 (0))), .a (.c (.int .i64 ((k : Int) - 1 - (j : Int)))), .any, .any, .any, .any, .any, .any, .any, .any, .any, .any, .any, .any, .any, .any, .any, .any, .any, .any, .any, .any, .any, .any, .any, .any, .any, .any, .any, .any, .any, .any], [[.row c' (bytesF j (L (partL n k j)))]]⟩,
    fun x => match x with
    | none => True
    | some (j, c') => 1 ≤ j ∧ j ≤ k ∧ j ≤ c', fun x => match x with
    | none => 9
    | some (j, _) => 8 - j, ⟨none, [], ⟨⟨rfl, rfl, rfl⟩, ?_⟩, trivial⟩, fun x => ?_⟩
  · (repeat first | exact trivial | refine ent1 ?_)
  rcases x with _ | ⟨j, c'⟩
  · intro _
    have e1 : decide (0 ≤ (k : Int) - 1) = true := decide_eq_true (by omega)
    (repeat first | refine And.intro (by omega) ?_ | refine And.intro (by decide) ?_ | refine And.intro rfl ?_ | refine And.intro (fun _ => ?_) (fun h => Bool.noConfusion h) | refine And.intro (fun h => Bool.noConfusion h) (fun _ => ?_) | refine And.intro (fun _ => ?_) (fun h => absurd h (by rw [e1]; decide)) | refine And.intro (fun h => absurd h (by rw [e1]; decide)) (fun _ => ?_))
    refine fun _ c' hc' => ?_
    refine ⟨⟨by omega, by omega⟩, some (1, c'), [1], ⟨⟨rfl, rfl, rfl⟩, ?_⟩, ⟨by omega, by omega, by omega⟩, by show 8 - 1 < 9; omega⟩
    (repeat first | exact trivial | refine ent1 ?_)
    refine ⟨fun j hj => eqC_bytes (fun i hi => ?_) j, trivial⟩
    rw [partL_one]
    exact new_row (fun i hi => one_row (by have := byte_at n k 0 (by omega) (by omega); simpa using this) i hi) i hi
  · rintro ⟨h1, h2, h3⟩
    refine ⟨fun h => ?_, fun h => ?_⟩
    · have hj : j < k := by have : (0 : Int) ≤ (k : Int) - 1 - j := of_decide_eq_true h; omega
      (repeat first | refine And.intro (by omega) ?_ | refine And.intro (by decide) ?_ | (with_reducible refine frc_parts (by first | omega | decide) ?_) | (with_reducible refine frc_bytesL (by first | omega | decide) ?_) | refine And.intro rfl ?_)
      refine ⟨⟨by omega, by simp only [scale]; omega, by show (j + 1) * 1 ≤ 140737488355328; omega⟩, fun c2 hc2 => ?_⟩
      refine ⟨⟨by omega, by omega⟩, some (j + 1, c2), [2], ⟨⟨rfl, rfl, rfl⟩, ?_⟩, ⟨by omega, by omega, by omega⟩, by dsimp only; omega⟩
      (repeat first | exact trivial | refine ent1 ?_)
      refine ⟨fun j' hj' => eqC_bytes (fun i hi => ?_) j', trivial⟩
      rw [partL_succ]
      exact app_row (by simp) rfl (fun i hi => bytesF_lt hi) (fun i hi => one_row (byte_at n k j hj (by omega)) i hi) i hi
    · obtain rfl : j = k := by have : ¬ (0 : Int) ≤ (k : Int) - 1 - j := of_decide_eq_false h; omega
      (repeat first | refine And.intro (by omega) ?_ | refine And.intro (by decide) ?_ | (with_reducible refine frc_parts (by first | omega | decide) ?_) | (with_reducible refine frc_bytesL (by first | omega | decide) ?_) | refine And.intro rfl ?_)
      refine ⟨.a (.c (.sl 0 0 0 (wideL n j).length c')), _, ⟨[0], ⟨rfl, rfl, rfl⟩, ?_⟩, c', h3, rfl, rfl⟩
      refine ⟨rfl, by simp, rfl, ?_⟩
      (repeat first | exact trivial | refine ent1 ?_)
      refine ⟨fun i hi => eqC_bytes (fun i hi => ?_) i, trivial⟩
      have hi : i < 0 + j := by simpa using hi
      have := wide_row (b := []) (n := n) (j := j) (by omega) i (by simpa using hi)
      simpa using this
end Sx
end Go.Proofs.Ytkjdkeolkigibaa
end

section
/-
  The program's writer of numbers and bytes; Wide. No condition.
-/
namespace Go.Proofs.Ytkjdkeolkigibaa
set_option linter.unusedVariables false
namespace Vi
open Sha
/-- Numbers, one behind the other. -/
def putAll : List (BitVec 64) → Bs
  | [] => []
  | n :: r => putL n ++ putAll r
theorem putAll_snoc : ∀ (l : List (BitVec 64)) (n : BitVec 64), putAll (l ++ [n]) = putAll l ++ putL n
  | [], n => by simp [putAll]
  | x :: l, n => by simp [putAll, putAll_snoc l n]
theorem putL_len (n : BitVec 64) : (putL n).length = lenN n := wideL_len _ _
theorem lenN_le (n : BitVec 64) : lenN n ≤ 8 := by have := lenN_spec n; omega
theorem putAll_len : ∀ l : List (BitVec 64), (putAll l).length ≤ 8 * l.length
  | [] => Nat.le_refl _
  | x :: l => by
    have := putAll_len l
    have := lenN_le x
    simp only [putAll, List.length_append, putL_len, List.length_cons]
    omega
theorem take_succ {α : Type} {l : List α} {i : Nat} {x : α} (h : l[i]? = some x) : l.take (i + 1) = l.take i ++ [x] := by
  rw [List.take_add_one, h]; rfl
end Vi
namespace Sx
open Sha Vi

/-- A writer with nothing in it; with bytes in block i. -/
abbrev wrN : List Seg := [.one (.slc none 0 0), .one (.int .i64 0)]
abbrev wrC (i : Nat) (b : Bs) (c : Nat) : List Seg := [.one (.sl i 0 0 b.length c), .one (.int .i64 0)]
set_option maxRecDepth 20000 in
theorem fn_wbytes (s : Sl) (hs : s.Ok) (b : Bs) (c : Nat) (hb : b.length ≤ 1000000) (hc : b.length ≤ c) : FnR Try.prog tds 49 1 [svB s, wrC 2 b c, lsC b c] [.c (.p 1 0 0), .c (svC 0 s)] (fun _ => True)
    (fun y hs => ∃ c', (b ++ s.l).length ≤ c' ∧ y = .tup [] ∧ hs = [svB s, wrC 3 (b ++ s.l) c', [], lsC (b ++ s.l) c']) := by
  refine fn_of_body tds_ok follows_ Try.func49 rfl (t := .a (.c (.p 1 0 0)) :: .a (.c (svC 0 s)) :: anys (Try.f49.ntmps - 2)) rfl (fun w r0 hr0 _ => ?_)
  obtain ⟨x0, x1, x2, rfl⟩ := len3' hr0
  have hsm := hs.small
  (repeat first | refine And.intro (by omega) ?_ | refine And.intro (by decide) ?_ | refine And.intro rfl ?_ | refine And.intro (fun _ => ?_) (fun h => Bool.noConfusion h) | refine And.intro (fun h => Bool.noConfusion h) (fun _ => ?_))
  refine sn_bts rfl hs.fit (fun h => by rw [hs.nil h]; rfl) (fun g hg => ?_)
  refine ⟨⟨hc, by simp only [scale]; omega, by show (b.length + s.l.length) * 1 ≤ 140737488355328; omega⟩, fun c' hc' => ?_⟩
  (repeat first | refine And.intro (by omega) ?_ | refine And.intro (by decide) ?_ | refine And.intro rfl ?_ | refine And.intro (fun _ => ?_) (fun h => Bool.noConfusion h) | refine And.intro (fun h => Bool.noConfusion h) (fun _ => ?_))
  refine ⟨.tup [], _, ⟨[0, 1, 2, 3], ⟨rfl, rfl, rfl⟩, ?_⟩, c', by simpa using hc', rfl, rfl⟩
  refine eqC_bts ?_
  refine ⟨rfl, by simp, ?_⟩
  (repeat first | exact trivial | refine ent1 ?_)
  refine ⟨fun j hj => eqC_bytes (fun i hi => ?_) j, trivial⟩
  exact app_row rfl rfl (fun i hi => bytesF_lt hi) hg i (by simpa using hi)
/-- Numbers in a row. -/
def numsF (l : List (BitVec 64)) : Nat → SC := fun j => match l[j]? with
  | some x => .w64 x
  | none => .any
theorem frc_nums {l : List (BitVec 64)} {j : Nat} {x : BitVec 64} {k : SC → Prop} (h : l[j]? = some x) (hk : k (.w64 x)) : frcSC (numsF l j) k := by
  unfold numsF; rw [h]; exact hk
theorem eqC_nums {q : List Nat} {l : List (BitVec 64)} {f : Nat → SC} (h : ∀ (j : Nat) (x : BitVec 64), l[j]? = some x → f j = .w64 x) (j : Nat) : eqC q (f j) (numsF l j) True := by
  unfold numsF
  cases e : l[j]? with
  | none => trivial
  | some x => rw [h j x e]; exact ⟨rfl, trivial⟩
theorem eqC_numsS {q : List Nat} {l : List (BitVec 64)} {j : Nat} : eqC q (numsF l j) (numsF l j) True := eqC_nums (fun j x h => by unfold numsF; rw [h]) j
set_option maxRecDepth 20000 in
theorem fn_wint (l : List (BitVec 64)) (M cm : Nat) (b : Bs) (c : Nat) (hl : ∀ n ∈ l, lenN n ≠ 0) (hM : l.length ≤ M) (hlm : l.length ≤ 1000) (hb : b.length ≤ 500000) (hc : b.length ≤ c) :
    FnR Try.prog tds 56 1 [[.row M (numsF l)], wrC 2 b c, lsC b c] [.c (.p 1 0 0), .c (.sl 0 0 0 l.length cm)] (fun _ => True)
    (fun y hs => (l = [] → y = .tup [] ∧ hs = [[.row M (numsF l)], wrC 2 b c, lsC b c]) ∧ (l ≠ [] → ∃ c', (b ++ putAll l).length ≤ c' ∧ y = .tup [] ∧ hs = [[.row M (numsF l)], wrC 3 (b ++ putAll l) c', [], lsC (b ++ putAll l) c'])) := by
  refine fn_of_body tds_ok follows_ Try.func56 rfl (t := .a (.c (.p 1 0 0)) :: .a (.c (.sl 0 0 0 l.length cm)) :: anys (Try.f56.ntmps - 2)) rfl (fun w r0 hr0 _ => ?_)
  obtain ⟨x0, x1, x2, rfl⟩ := len3' hr0
  (repeat first | refine And.intro (by omega) ?_ | refine And.intro (by decide) ?_ | refine And.intro rfl ?_ | refine And.intro (fun _ => ?_) (fun h => Bool.noConfusion h) | refine And.intro (fun h => Bool.noConfusion h) (fun _ => ?_))
  refine .inl ⟨Option (Nat × Nat × Bs), fun x => match x with
    | none => ⟨[.a (.c (.p 1 0 0)), .any, .any, .any, .any, .any, .any, .any, .any, .any, .any, .any, .any, .any, .any, .any, .a (.c (.sl 0 0 0 l.length cm)), .a (.c (.int .i64 ((l.length : Nat)))), .a (.c (.int .i64 (0))), .any, .any, .any, .any, .any, .any, .any, .any, .any, .any, .any, .any, .any, .any, .any, .any, .any, .any, .any, .any, .any], [[.row M (numsF l)], wrC 2 b c, lsC b c]⟩
    | some (j, c', B) => ⟨[.a (.c (.p 1 0 0)), .any, .any, .any, .any, .any, .any, .any, .any, .any, .any, .any, .any, .any, .any, .any, .a (.c (.sl 0 0 0 l.length cm)), .a (.c (.int .i64 ((l.length : Nat)))), .a (.c (.int .i64 ((j : Nat)))), .any, .any, .any, .any, .any, .any, .any, .any, .any, .any, .any, .any, .any, .any, .any, .any, .any, .any, .any, .any, .any], [[.row M (numsF l)], wrC 3 B c', [], lsC B c']⟩,
    fun x => match x with
    | none => True
    | some (j, c', B) => 1 ≤ j ∧ j ≤ l.length ∧ B.length ≤ c' ∧ B = b ++ putAll (l.take j), fun x => match x with
    | none => l.length + 1
    | some (j, _, _) => l.length - j, ⟨none, [0, 1, 2], ⟨⟨rfl, rfl, rfl⟩, ?_⟩, trivial⟩, fun x => ?_⟩
  · (repeat first | exact trivial | refine ent1 ?_)
    exact ⟨fun j hj => eqC_numsS, by (repeat first | exact trivial | refine ent1 ?_)⟩
  rcases x with _ | ⟨j, c', B⟩
  · intro _
    refine ⟨fun h => ?_, fun h => ?_⟩
    · have hl0 : 0 < l.length := by have : (0 : Int) < (l.length : Int) := of_decide_eq_true h; omega
      obtain ⟨n, hn⟩ : ∃ n, l[0]? = some n := ⟨l[0], List.getElem?_eq_getElem hl0⟩
      have hne := hl n (List.mem_of_getElem? hn)
      (repeat first | refine And.intro (by omega) ?_ | refine And.intro (by decide) ?_ | (with_reducible refine frc_parts (by first | omega | decide) ?_) | (with_reducible refine frc_bytesL (by first | omega | decide) ?_) | refine And.intro rfl ?_)
      have hn' : l[Int.toNat 0 + 0]? = some n := hn
      with_reducible refine frc_nums hn' ?_
      (repeat first | refine And.intro (by omega) ?_ | refine And.intro (by decide) ?_ | (with_reducible refine frc_parts (by first | omega | decide) ?_) | (with_reducible refine frc_bytesL (by first | omega | decide) ?_) | refine And.intro rfl ?_)
      refine call_same (fn_vlen n) [] rfl (by (repeat first | exact trivial | refine ent1 ?_)) trivial (fun _ _ => trivial) ?_
      rintro x hs ⟨rfl, rfl⟩
      have e1 : decide ((lenN n : Int) = 0) = false := decide_eq_false (by omega)
      (repeat first | refine And.intro (by omega) ?_ | refine And.intro (by decide) ?_ | refine And.intro rfl ?_ | refine And.intro (fun _ => ?_) (fun h => Bool.noConfusion h) | refine And.intro (fun h => Bool.noConfusion h) (fun _ => ?_) | refine And.intro (fun _ => ?_) (fun h => absurd h (by rw [e1]; decide)) | refine And.intro (fun h => absurd h (by rw [e1]; decide)) (fun _ => ?_))
      refine call_same (fn_vattach b c n (lenN n) (lenN_ok hne) (by omega) hc) [2] rfl (by (repeat first | exact trivial | refine ent1 ?_)) ?_ (fun _ _ => trivial) ?_
      · (repeat first | exact trivial | refine ent1 ?_)
      rintro x hs ⟨c', hc', rfl, rfl⟩
      have ep : putAll (l.take 1) = wideL n (lenN n) := by
        rw [take_succ hn, putAll_snoc]; simp [putAll, putL]
      (repeat first | refine And.intro (by omega) ?_ | refine And.intro (by decide) ?_ | (with_reducible refine frc_parts (by first | omega | decide) ?_) | (with_reducible refine frc_bytesL (by first | omega | decide) ?_) | refine And.intro rfl ?_)
      refine ⟨some (1, c', b ++ wideL n (lenN n)), [0, 1, 2, 3], ⟨⟨rfl, rfl, rfl⟩, ?_⟩, ⟨by omega, by omega, by simpa using hc', by rw [ep]⟩, by dsimp only; omega⟩
      (repeat first | exact trivial | refine ent1 ?_)
      exact ⟨fun j hj => eqC_numsS, by (repeat first | exact trivial | refine ent1 ?_)⟩
    · have hl0 : l = [] := List.eq_nil_of_length_eq_zero (by have : ¬ (0 : Int) < (l.length : Int) := of_decide_eq_false h; omega)
      (repeat first | refine And.intro (by omega) ?_ | refine And.intro (by decide) ?_ | (with_reducible refine frc_parts (by first | omega | decide) ?_) | (with_reducible refine frc_bytesL (by first | omega | decide) ?_) | refine And.intro rfl ?_)
      refine ⟨.tup [], _, ⟨[0, 1, 2], ⟨rfl, rfl, rfl⟩, ?_⟩, fun _ => ⟨rfl, rfl⟩, fun h => absurd hl0 h⟩
      exact ⟨rfl, fun j hj => eqC_numsS, by (repeat first | exact trivial | refine ent1 ?_)⟩
  · rintro ⟨h1, h2, h3, hB⟩
    refine ⟨fun h => ?_, fun h => ?_⟩
    · have hj : j < l.length := by have : (j : Int) < (l.length : Int) := of_decide_eq_true h; omega
      obtain ⟨n, hn⟩ : ∃ n, l[j]? = some n := ⟨l[j], List.getElem?_eq_getElem hj⟩
      have hne := hl n (List.mem_of_getElem? hn)
      (repeat first | refine And.intro (by omega) ?_ | refine And.intro (by decide) ?_ | (with_reducible refine frc_parts (by first | omega | decide) ?_) | (with_reducible refine frc_bytesL (by first | omega | decide) ?_) | refine And.intro rfl ?_)
      have hn' : l[((j : Nat) : Int).toNat + 0]? = some n := hn
      with_reducible refine frc_nums hn' ?_
      (repeat first | refine And.intro (by omega) ?_ | refine And.intro (by decide) ?_ | (with_reducible refine frc_parts (by first | omega | decide) ?_) | (with_reducible refine frc_bytesL (by first | omega | decide) ?_) | refine And.intro rfl ?_)
      refine call_same (fn_vlen n) [] rfl (by (repeat first | exact trivial | refine ent1 ?_)) trivial (fun _ _ => trivial) ?_
      rintro x hs ⟨rfl, rfl⟩
      have e1 : decide ((lenN n : Int) = 0) = false := decide_eq_false (by omega)
      (repeat first | refine And.intro (by omega) ?_ | refine And.intro (by decide) ?_ | refine And.intro rfl ?_ | refine And.intro (fun _ => ?_) (fun h => Bool.noConfusion h) | refine And.intro (fun h => Bool.noConfusion h) (fun _ => ?_) | refine And.intro (fun _ => ?_) (fun h => absurd h (by rw [e1]; decide)) | refine And.intro (fun h => absurd h (by rw [e1]; decide)) (fun _ => ?_))
      have hpl := putAll_len (l.take j)
      have htl : (l.take j).length ≤ 1000 := by rw [List.length_take]; omega
      refine call_same (fn_vattach B c' n (lenN n) (lenN_ok hne) (by rw [hB, List.length_append]; have : (putAll (l.take j)).length ≤ 8 * (l.take j).length := hpl; omega) h3) [3] rfl (by (repeat first | exact trivial | refine ent1 ?_)) ?_ (fun _ _ => trivial) ?_
      · (repeat first | exact trivial | refine ent1 ?_)
      rintro x hs ⟨c2, hc2, rfl, rfl⟩
      have ep : b ++ putAll (l.take (j + 1)) = b ++ putAll (l.take j) ++ wideL n (lenN n) := by
        rw [take_succ hn, putAll_snoc, List.append_assoc]; rfl
      (repeat first | refine And.intro (by omega) ?_ | refine And.intro (by decide) ?_ | (with_reducible refine frc_parts (by first | omega | decide) ?_) | (with_reducible refine frc_bytesL (by first | omega | decide) ?_) | refine And.intro rfl ?_)
      refine ⟨some (j + 1, c2, B ++ wideL n (lenN n)), [0, 1, 2, 4], ⟨⟨rfl, rfl, rfl⟩, ?_⟩, ⟨by omega, by omega, by simpa using hc2, by rw [ep, hB]⟩, by dsimp only; omega⟩
      (repeat first | exact trivial | refine ent1 ?_)
      exact ⟨fun j hj => eqC_numsS, by (repeat first | exact trivial | refine ent1 ?_)⟩
    · have hj : j = l.length := by have : ¬ (j : Int) < (l.length : Int) := of_decide_eq_false h; omega
      subst hj
      rw [List.take_length] at hB
      subst hB
      (repeat first | refine And.intro (by omega) ?_ | refine And.intro (by decide) ?_ | (with_reducible refine frc_parts (by first | omega | decide) ?_) | (with_reducible refine frc_bytesL (by first | omega | decide) ?_) | refine And.intro rfl ?_)
      refine ⟨.tup [], _, ⟨[0, 1, 2, 3], ⟨rfl, rfl, rfl⟩, ?_⟩, fun h => absurd h (by intro e; subst e; simp at h1), fun _ => ⟨c', h3, rfl, rfl⟩⟩
      exact ⟨rfl, fun j hj => eqC_numsS, by (repeat first | exact trivial | refine ent1 ?_)⟩
end Sx
end Go.Proofs.Ytkjdkeolkigibaa
end

section
/-
  The program's writer: long ones, all of it; Wide. No condition.
-/
namespace Go.Proofs.Ytkjdkeolkigibaa
set_option linter.unusedVariables false
namespace Vi
open Sha
/-- Some bytes, their number ahead. -/
def longL (l : Bs) : Bs := putL (BitVec.ofNat 64 l.length) ++ l
theorem lenN_of {n : Nat} (h : n ≤ 1000000) : lenN (BitVec.ofNat 64 n) ≠ 0 := by
  have := lenN_spec (BitVec.ofNat 64 n)
  rw [BitVec.toNat_ofNat, Nat.mod_eq_of_lt (by omega)] at this
  omega
theorem longL_len (l : Bs) : (longL l).length ≤ 8 + l.length := by
  have := lenN_le (BitVec.ofNat 64 l.length)
  simp only [longL, List.length_append, putL_len]
  omega
end Vi
namespace Sx
open Sha Vi

set_option maxRecDepth 20000 in
theorem fn_wlong (s : Sl) (hs : s.Ok) (b : Bs) (c : Nat) (hb : b.length ≤ 400000) (hc : b.length ≤ c) : FnR Try.prog tds 51 1 [svB s, wrC 2 b c, lsC b c] [.c (.p 1 0 0), .c (svC 0 s)] (fun _ => True)
    (fun y hs => ∃ c', (b ++ longL s.l).length ≤ c' ∧ y = .tup [] ∧ hs = [svB s, wrC 3 (b ++ longL s.l) c', [], lsC (b ++ longL s.l) c']) := by
  refine fn_of_body tds_ok follows_ Try.func51 rfl (t := .a (.c (.p 1 0 0)) :: .a (.c (svC 0 s)) :: anys (Try.f51.ntmps - 2)) rfl (fun w r0 hr0 _ => ?_)
  obtain ⟨x0, x1, x2, rfl⟩ := len3' hr0
  have hsm := hs.small
  have hne := lenN_of hsm
  (repeat first | refine And.intro (by omega) ?_ | refine And.intro (by decide) ?_ | (with_reducible refine frc_parts (by first | omega | decide) ?_) | (with_reducible refine frc_bytesL (by first | omega | decide) ?_) | refine And.intro rfl ?_)
  refine call_same (fn_wint [BitVec.ofNat 64 s.l.length] 1 1 b c (fun n hn => by simp at hn; rw [hn]; exact hne) (Nat.le_refl _) (by simp) (by omega) hc) [3, 1, 2] rfl (by (repeat first | exact trivial | refine ent1 ?_)) ?_ (fun _ _ => trivial) ?_
  · refine ⟨rfl, fun j hj => eqC_nums (fun i x h => ?_) j, ?_⟩
    · have hi : i = 0 := by
        have := (List.getElem?_eq_some_iff.1 h).1
        simp at this
        exact this
      subst hi
      simp at h
      subst h
      show SC.w64 (BitVec.ofInt 64 ((s.l.length : Nat) : Int)) = _
      rw [BitVec.ofInt_natCast]
    (repeat first | exact trivial | refine ent1 ?_)
  rintro x hs' ⟨-, hx⟩
  obtain ⟨c1, hc1, rfl, rfl⟩ := hx (by simp)
  clear hx
  obtain ⟨B, hB⟩ : ∃ B, b ++ putAll [BitVec.ofNat 64 s.l.length] = B := ⟨_, rfl⟩
  have hBl : B.length ≤ 400008 := by
    have := putAll_len [BitVec.ofNat 64 s.l.length]
    rw [← hB, List.length_append]
    simp only [List.length_cons, List.length_nil] at this
    omega
  rw [hB] at hc1 ⊢
  have hf : b ++ longL s.l = B ++ s.l := by rw [← hB]; simp [longL, putAll]
  rw [hf]
  (repeat first | refine And.intro (by omega) ?_ | refine And.intro (by decide) ?_ | (with_reducible refine frc_parts (by first | omega | decide) ?_) | (with_reducible refine frc_bytesL (by first | omega | decide) ?_) | refine And.intro rfl ?_)
  refine call_same (fn_wbytes s hs B c1 (by omega) hc1) [0, 1, 4] rfl (by (repeat first | exact trivial | refine ent1 ?_)) ?_ (fun _ _ => trivial) ?_
  · refine eqC_bts ?_
    (repeat first | exact trivial | refine ent1 ?_)
  rintro x hs' ⟨c2, hc2, rfl, rfl⟩
  refine ⟨.tup [], _, ⟨[0, 1, 2, 5], ⟨rfl, rfl, rfl⟩, ?_⟩, c2, hc2, rfl, rfl⟩
  refine eqC_bts ?_
  (repeat first | exact trivial | refine ent1 ?_)
set_option maxRecDepth 20000 in
theorem fn_wdone (b : Bs) (c : Nat) (hb : b.length ≤ 1000000) (hc : b.length ≤ c) (h0 : 0 < b.length) : FnR Try.prog tds 50 2 [wrC 1 b c, lsC b c] [.c (.p 0 0 0)] (fun _ => True)
    (fun y hs => ∃ c', b.length ≤ c' ∧ y = .tup [.c (.sl 2 0 0 b.length c'), .c (.int .i64 0)] ∧ hs = [wrC 1 b c, lsC b c, lsC b c']) := by
  refine fn_of_body tds_ok follows_ Try.func50 rfl (t := .a (.c (.p 0 0 0)) :: anys (Try.f50.ntmps - 1)) rfl (fun w r0 hr0 _ => ?_)
  obtain ⟨x0, x1, rfl⟩ := len2' hr0
  (repeat first | refine And.intro (by omega) ?_ | refine And.intro (by decide) ?_ | refine And.intro rfl ?_ | refine And.intro (fun _ => ?_) (fun h => Bool.noConfusion h) | refine And.intro (fun h => Bool.noConfusion h) (fun _ => ?_))
  refine ⟨by show 0 + b.length ≤ c; omega, ⟨rfl, rfl⟩, by show b.length * 1 ≤ 140737488355328; omega, fun hm0 => absurd hm0 (by omega), fun hm0 c' hc' => ?_⟩
  refine ⟨.tup [.c (.sl 2 0 0 b.length c'), .c (.int .i64 0)], _, ⟨[0, 1, 2], ⟨rfl, rfl, rfl⟩, ?_⟩, c', hc', rfl, rfl⟩
  (repeat first | exact trivial | refine ent1 ?_)
  exact ⟨fun j hj => eqC_bytes (fun i hi => new_row (m := b) (fun q hq => bytesF_lt hq) i hi) j, trivial⟩
end Sx
end Go.Proofs.Ytkjdkeolkigibaa
end

section
/-
  Numbers put into a writer that has nothing yet. No condition.
-/
namespace Go.Proofs.Ytkjdkeolkigibaa
set_option linter.unusedVariables false
namespace Sx
open Sha Vi

set_option maxRecDepth 20000 in
theorem fn_wint0 (l : List (BitVec 64)) (M cm : Nat) (hl : ∀ n ∈ l, lenN n ≠ 0) (hM : l.length ≤ M) (hlm : l.length ≤ 1000) (h0 : l ≠ []) :
    FnR Try.prog tds 56 1 [[.row M (numsF l)], wrN] [.c (.p 1 0 0), .c (.sl 0 0 0 l.length cm)] (fun _ => True)
    (fun y hs => ∃ c', (putAll l).length ≤ c' ∧ y = .tup [] ∧ hs = [[.row M (numsF l)], wrC 2 (putAll l) c', lsC (putAll l) c']) := by
  refine fn_of_body tds_ok follows_ Try.func56 rfl (t := .a (.c (.p 1 0 0)) :: .a (.c (.sl 0 0 0 l.length cm)) :: anys (Try.f56.ntmps - 2)) rfl (fun w r0 hr0 _ => ?_)
  obtain ⟨x0, x1, rfl⟩ := len2' hr0
  (repeat first | refine And.intro (by omega) ?_ | refine And.intro (by decide) ?_ | refine And.intro rfl ?_ | refine And.intro (fun _ => ?_) (fun h => Bool.noConfusion h) | refine And.intro (fun h => Bool.noConfusion h) (fun _ => ?_))
  refine .inl ⟨Option (Nat × Nat × Bs), fun x => match x with
    | none => ⟨[.a (.c (.p 1 0 0)), .any, .any, .any, .any, .any, .any, .any, .any, .any, .any, .any, .any, .any, .any, .any, .a (.c (.sl 0 0 0 l.length cm)), .a (.c (.int .i64 ((l.length : Nat)))), .a (.c (.int .i64 (0))), .any, .any, .any, .any, .any, .any, .any, .any, .any, .any, .any, .any, .any, .any, .any, .any, .any, .any, .any, .any, .any], [[.row M (numsF l)], wrN]⟩
    | some (j, c', B) => ⟨[.a (.c (.p 1 0 0)), .any, .any, .any, .any, .any, .any, .any, .any, .any, .any, .any, .any, .any, .any, .any, .a (.c (.sl 0 0 0 l.length cm)), .a (.c (.int .i64 ((l.length : Nat)))), .a (.c (.int .i64 ((j : Nat)))), .any, .any, .any, .any, .any, .any, .any, .any, .any, .any, .any, .any, .any, .any, .any, .any, .any, .any, .any, .any, .any], [[.row M (numsF l)], wrC 2 B c', lsC B c']⟩,
    fun x => match x with
    | none => True
    | some (j, c', B) => 1 ≤ j ∧ j ≤ l.length ∧ B.length ≤ c' ∧ B = putAll (l.take j), fun x => match x with
    | none => l.length + 1
    | some (j, _, _) => l.length - j, ⟨none, [0, 1], ⟨⟨rfl, rfl, rfl⟩, ?_⟩, trivial⟩, fun x => ?_⟩
  · (repeat first | exact trivial | refine ent1 ?_)
    exact ⟨fun j hj => eqC_numsS, by (repeat first | exact trivial | refine ent1 ?_)⟩
  rcases x with _ | ⟨j, c', B⟩
  · intro _
    refine ⟨fun h => ?_, fun h => ?_⟩
    · have hl0 : 0 < l.length := by have : (0 : Int) < (l.length : Int) := of_decide_eq_true h; omega
      obtain ⟨n, hn⟩ : ∃ n, l[0]? = some n := ⟨l[0], List.getElem?_eq_getElem hl0⟩
      have hne := hl n (List.mem_of_getElem? hn)
      (repeat first | refine And.intro (by omega) ?_ | refine And.intro (by decide) ?_ | (with_reducible refine frc_parts (by first | omega | decide) ?_) | (with_reducible refine frc_bytesL (by first | omega | decide) ?_) | refine And.intro rfl ?_)
      have hn' : l[Int.toNat 0 + 0]? = some n := hn
      with_reducible refine frc_nums hn' ?_
      (repeat first | refine And.intro (by omega) ?_ | refine And.intro (by decide) ?_ | (with_reducible refine frc_parts (by first | omega | decide) ?_) | (with_reducible refine frc_bytesL (by first | omega | decide) ?_) | refine And.intro rfl ?_)
      refine call_same (fn_vlen n) [] rfl (by (repeat first | exact trivial | refine ent1 ?_)) trivial (fun _ _ => trivial) ?_
      rintro x hs ⟨rfl, rfl⟩
      have e1 : decide ((lenN n : Int) = 0) = false := decide_eq_false (by omega)
      (repeat first | refine And.intro (by omega) ?_ | refine And.intro (by decide) ?_ | refine And.intro rfl ?_ | refine And.intro (fun _ => ?_) (fun h => Bool.noConfusion h) | refine And.intro (fun h => Bool.noConfusion h) (fun _ => ?_) | refine And.intro (fun _ => ?_) (fun h => absurd h (by rw [e1]; decide)) | refine And.intro (fun h => absurd h (by rw [e1]; decide)) (fun _ => ?_))
      refine call_same (fn_vattach0 n (lenN n) (lenN_ok hne)) [] rfl (by (repeat first | exact trivial | refine ent1 ?_)) trivial (fun _ _ => trivial) ?_
      rintro x hs ⟨c', hc', rfl, rfl⟩
      have ep : putAll (l.take 1) = wideL n (lenN n) := by
        rw [take_succ hn, putAll_snoc]; simp [putAll, putL]
      (repeat first | refine And.intro (by omega) ?_ | refine And.intro (by decide) ?_ | (with_reducible refine frc_parts (by first | omega | decide) ?_) | (with_reducible refine frc_bytesL (by first | omega | decide) ?_) | refine And.intro rfl ?_)
      refine ⟨some (1, c', wideL n (lenN n)), [0, 1, 2], ⟨⟨rfl, rfl, rfl⟩, ?_⟩, ⟨by omega, by omega, by simpa using hc', by rw [ep]⟩, by dsimp only; omega⟩
      (repeat first | exact trivial | refine ent1 ?_)
      exact ⟨fun j hj => eqC_numsS, by (repeat first | exact trivial | refine ent1 ?_)⟩
    · have hl0 : l = [] := List.eq_nil_of_length_eq_zero (by have : ¬ (0 : Int) < (l.length : Int) := of_decide_eq_false h; omega)
      exact absurd hl0 h0
  · rintro ⟨h1, h2, h3, hB⟩
    refine ⟨fun h => ?_, fun h => ?_⟩
    · have hj : j < l.length := by have : (j : Int) < (l.length : Int) := of_decide_eq_true h; omega
      obtain ⟨n, hn⟩ : ∃ n, l[j]? = some n := ⟨l[j], List.getElem?_eq_getElem hj⟩
      have hne := hl n (List.mem_of_getElem? hn)
      (repeat first | refine And.intro (by omega) ?_ | refine And.intro (by decide) ?_ | (with_reducible refine frc_parts (by first | omega | decide) ?_) | (with_reducible refine frc_bytesL (by first | omega | decide) ?_) | refine And.intro rfl ?_)
      have hn' : l[((j : Nat) : Int).toNat + 0]? = some n := hn
      with_reducible refine frc_nums hn' ?_
      (repeat first | refine And.intro (by omega) ?_ | refine And.intro (by decide) ?_ | (with_reducible refine frc_parts (by first | omega | decide) ?_) | (with_reducible refine frc_bytesL (by first | omega | decide) ?_) | refine And.intro rfl ?_)
      refine call_same (fn_vlen n) [] rfl (by (repeat first | exact trivial | refine ent1 ?_)) trivial (fun _ _ => trivial) ?_
      rintro x hs ⟨rfl, rfl⟩
      have e1 : decide ((lenN n : Int) = 0) = false := decide_eq_false (by omega)
      (repeat first | refine And.intro (by omega) ?_ | refine And.intro (by decide) ?_ | refine And.intro rfl ?_ | refine And.intro (fun _ => ?_) (fun h => Bool.noConfusion h) | refine And.intro (fun h => Bool.noConfusion h) (fun _ => ?_) | refine And.intro (fun _ => ?_) (fun h => absurd h (by rw [e1]; decide)) | refine And.intro (fun h => absurd h (by rw [e1]; decide)) (fun _ => ?_))
      have hpl := putAll_len (l.take j)
      have htl : (l.take j).length ≤ 1000 := by rw [List.length_take]; omega
      refine call_same (fn_vattach B c' n (lenN n) (lenN_ok hne) (by rw [hB]; have : (putAll (l.take j)).length ≤ 8 * (l.take j).length := hpl; omega) h3) [2] rfl (by (repeat first | exact trivial | refine ent1 ?_)) ?_ (fun _ _ => trivial) ?_
      · (repeat first | exact trivial | refine ent1 ?_)
      rintro x hs ⟨c2, hc2, rfl, rfl⟩
      have ep : putAll (l.take (j + 1)) = putAll (l.take j) ++ wideL n (lenN n) := by
        rw [take_succ hn, putAll_snoc]; rfl
      (repeat first | refine And.intro (by omega) ?_ | refine And.intro (by decide) ?_ | (with_reducible refine frc_parts (by first | omega | decide) ?_) | (with_reducible refine frc_bytesL (by first | omega | decide) ?_) | refine And.intro rfl ?_)
      refine ⟨some (j + 1, c2, B ++ wideL n (lenN n)), [0, 1, 3], ⟨⟨rfl, rfl, rfl⟩, ?_⟩, ⟨by omega, by omega, by simpa using hc2, by rw [ep, hB]⟩, by dsimp only; omega⟩
      (repeat first | exact trivial | refine ent1 ?_)
      exact ⟨fun j hj => eqC_numsS, by (repeat first | exact trivial | refine ent1 ?_)⟩
    · have hj : j = l.length := by have : ¬ (j : Int) < (l.length : Int) := of_decide_eq_false h; omega
      subst hj
      rw [List.take_length] at hB
      subst hB
      (repeat first | refine And.intro (by omega) ?_ | refine And.intro (by decide) ?_ | (with_reducible refine frc_parts (by first | omega | decide) ?_) | (with_reducible refine frc_bytesL (by first | omega | decide) ?_) | refine And.intro rfl ?_)
      refine ⟨.tup [], _, ⟨[0, 1, 2], ⟨rfl, rfl, rfl⟩, ?_⟩, c', h3, rfl, rfl⟩
      exact ⟨rfl, fun j hj => eqC_numsS, by (repeat first | exact trivial | refine ent1 ?_)⟩
end Sx
end Go.Proofs.Ytkjdkeolkigibaa
end

section
/-
  A number by its id, put into a writer: the closure of Params.Put. No condition.
-/
namespace Go.Proofs.Ytkjdkeolkigibaa
set_option linter.unusedVariables false
namespace Sx
open Sha Vi

/-- A number, by its id. -/
abbrev numL (id n : BitVec 64) : Bs := putAll [id, BitVec.ofInt 64 (lenN n : Int), n]
theorem lenN_small (n : BitVec 64) : lenN (BitVec.ofInt 64 (lenN n : Int)) ≠ 0 := by
  have := lenN_of (n := lenN n) (by have := lenN_le n; omega)
  exact this
theorem nums3 (a b c : BitVec 64) : ∀ (j : Nat) (x : BitVec 64), [a, b, c][j]? = some x → nthC [.w64 a, .w64 b, .w64 c] j = .w64 x
  | 0, x, h => by simp at h; subst h; rfl
  | 1, x, h => by simp at h; subst h; rfl
  | 2, x, h => by simp at h; subst h; rfl
  | j + 3, x, h => by simp at h
set_option maxRecDepth 20000 in
theorem fn_number0 (id n : BitVec 64) (h1 : lenN id ≠ 0) (h2 : lenN n ≠ 0) :
    Fn Try.prog tds 55 [wrN] [.c (.w64 id), .c (.w64 n), .c (.p 0 0 0)] (fun _ => True)
    (fun y hs => ∃ B c', B = numL id n ∧ B.length ≤ c' ∧ y = .tup [] ∧ hs = [wrC 1 B c', lsC B c']) := by
  refine fn_of_body tds_ok follows_ Try.func55 rfl (t := .a (.c (.w64 id)) :: .a (.c (.w64 n)) :: .a (.c (.p 0 0 0)) :: anys (Try.f55.ntmps - 3)) rfl (fun w r0 hr0 _ => ?_)
  obtain ⟨x0, rfl⟩ := List.length_eq_one_iff.1 hr0
  (repeat first | (refine And.intro ?_ ?_; first | exact rfl | ((exact fun h => absurd h (by first | decide)); intro yy; clear yy) | (rotate_left; (exact fun h => absurd h (by first | decide)); intro yy; clear yy) | decide | omega) | (with_reducible refine frc_bytesL (by first | omega | decide) ?_) | (with_reducible refine frc_bytesM (by first | omega | decide) ?_))
  refine call_same (fn_vlen n) [] rfl (by (repeat first | exact trivial | refine ent1 ?_)) trivial (fun _ _ => trivial) ?_
  rintro x hs ⟨rfl, rfl⟩
  (repeat first | (refine And.intro ?_ ?_; first | exact rfl | ((exact fun h => absurd h (by first | decide)); intro yy; clear yy) | (rotate_left; (exact fun h => absurd h (by first | decide)); intro yy; clear yy) | decide | omega) | (with_reducible refine frc_bytesL (by first | omega | decide) ?_) | (with_reducible refine frc_bytesM (by first | omega | decide) ?_))
  refine call_same (fn_wint0 [id, BitVec.ofInt 64 (lenN n : Int), n] 3 3 (by intro x hx; simp at hx; rcases hx with rfl | rfl | rfl; exact h1; exact lenN_small n; exact h2) (Nat.le_refl _) (by simp) (by simp)) [1, 0] rfl (by (repeat first | exact trivial | refine ent1 ?_)) ?_ (fun _ _ => trivial) ?_
  · (repeat first | exact trivial | refine ent1 ?_)
    refine ⟨fun j hj => eqC_nums (nums3 _ _ _) j, ?_⟩
    (repeat first | exact trivial | refine ent1 ?_)
  rintro x hs ⟨c', hc', rfl, rfl⟩
  (repeat first | (refine And.intro ?_ ?_; first | exact rfl | ((exact fun h => absurd h (by first | decide)); intro yy; clear yy) | (rotate_left; (exact fun h => absurd h (by first | decide)); intro yy; clear yy) | decide | omega) | (with_reducible refine frc_bytesL (by first | omega | decide) ?_) | (with_reducible refine frc_bytesM (by first | omega | decide) ?_))
  refine ⟨.tup [], _, ⟨[0, 2], ⟨rfl, rfl, rfl⟩, ?_⟩, _, c', rfl, hc', rfl, rfl⟩
  (repeat first | exact trivial | refine ent1 ?_)
set_option maxRecDepth 20000 in
theorem fn_number (id n : BitVec 64) (b : Bs) (c : Nat) (h1 : lenN id ≠ 0) (h2 : lenN n ≠ 0) (hb : b.length ≤ 500000) (hc : b.length ≤ c) :
    Fn Try.prog tds 55 [wrC 1 b c, lsC b c] [.c (.w64 id), .c (.w64 n), .c (.p 0 0 0)] (fun _ => True)
    (fun y hs => ∃ B c', B = b ++ numL id n ∧ B.length ≤ c' ∧ y = .tup [] ∧ hs = [wrC 2 B c', [], lsC B c']) := by
  refine fn_of_body tds_ok follows_ Try.func55 rfl (t := .a (.c (.w64 id)) :: .a (.c (.w64 n)) :: .a (.c (.p 0 0 0)) :: anys (Try.f55.ntmps - 3)) rfl (fun w r0 hr0 _ => ?_)
  obtain ⟨x0, x1, rfl⟩ := len2' hr0
  (repeat first | (refine And.intro ?_ ?_; first | exact rfl | ((exact fun h => absurd h (by first | decide)); intro yy; clear yy) | (rotate_left; (exact fun h => absurd h (by first | decide)); intro yy; clear yy) | decide | omega) | (with_reducible refine frc_bytesL (by first | omega | decide) ?_) | (with_reducible refine frc_bytesM (by first | omega | decide) ?_))
  refine call_same (fn_vlen n) [] rfl (by (repeat first | exact trivial | refine ent1 ?_)) trivial (fun _ _ => trivial) ?_
  rintro x hs ⟨rfl, rfl⟩
  (repeat first | (refine And.intro ?_ ?_; first | exact rfl | ((exact fun h => absurd h (by first | decide)); intro yy; clear yy) | (rotate_left; (exact fun h => absurd h (by first | decide)); intro yy; clear yy) | decide | omega) | (with_reducible refine frc_bytesL (by first | omega | decide) ?_) | (with_reducible refine frc_bytesM (by first | omega | decide) ?_))
  refine call_same (fn_wint [id, BitVec.ofInt 64 (lenN n : Int), n] 3 3 b c (by intro x hx; simp at hx; rcases hx with rfl | rfl | rfl; exact h1; exact lenN_small n; exact h2) (Nat.le_refl _) (by simp) hb hc) [2, 0, 1] rfl (by (repeat first | exact trivial | refine ent1 ?_)) ?_ (fun _ _ => trivial) ?_
  · (repeat first | exact trivial | refine ent1 ?_)
    refine ⟨fun j hj => eqC_nums (nums3 _ _ _) j, ?_⟩
    (repeat first | exact trivial | refine ent1 ?_)
  rintro x hs ⟨-, hk⟩
  obtain ⟨c', hc', rfl, rfl⟩ := hk (by simp)
  (repeat first | (refine And.intro ?_ ?_; first | exact rfl | ((exact fun h => absurd h (by first | decide)); intro yy; clear yy) | (rotate_left; (exact fun h => absurd h (by first | decide)); intro yy; clear yy) | decide | omega) | (with_reducible refine frc_bytesL (by first | omega | decide) ?_) | (with_reducible refine frc_bytesM (by first | omega | decide) ?_))
  refine ⟨.tup [], _, ⟨[0, 1, 3], ⟨rfl, rfl, rfl⟩, ?_⟩, _, c', rfl, hc', rfl, rfl⟩
  (repeat first | exact trivial | refine ent1 ?_)
end Sx
end Go.Proofs.Ytkjdkeolkigibaa
end

section
/-
  What an endpoint says, put as bytes. No condition.
-/
namespace Go.Proofs.Ytkjdkeolkigibaa
set_option linter.unusedVariables false
namespace Sx
open Sha Vi

def putP (p : Pm) : Bs := numL 1#64 p.a0 ++ numL 4#64 p.a1 ++ numL 5#64 p.a2 ++ numL 6#64 p.a3 ++ numL 7#64 p.a4 ++ numL 8#64 p.a5 ++ numL 9#64 p.a6 ++ numL 11#64 p.a7 ++ numL 14#64 p.a8 ++ putAll [15#64] ++ longL p.s.l
theorem numL_len (id n : BitVec 64) : (numL id n).length ≤ 24 := putAll_len [id, BitVec.ofInt 64 (lenN n : Int), n]
theorem one_len (n : BitVec 64) : (putAll [n]).length ≤ 8 := putAll_len [n]
theorem one_15 : (putAll [15#64]).length = 1 := by decide
theorem app_len {a b : Bs} {m n : Nat} (h1 : a.length ≤ m) (h2 : b.length ≤ n) : (a ++ b).length ≤ m + n := by rw [List.length_append]; omega
theorem nums1 (a : BitVec 64) : ∀ (j : Nat) (x : BitVec 64), [a][j]? = some x → nthC [.w64 a] j = .w64 x
  | 0, x, h => by simp at h; subst h; rfl
  | j + 1, x, h => by simp at h
theorem small_len {n : BitVec 64} (h : n ≤ 1073741824#64) : lenN n ≠ 0 := by
  unfold lenN
  have h1 : n.toNat ≤ 1073741824 := h
  split
  · decide
  split
  · decide
  split
  · decide
  split
  · decide
  · rename_i h2
    have h2 : ¬ n.toNat < 4611686018427387904 := h2
    omega
theorem m2_le {a b c : BitVec 64} (h : m2 a b ≤ c) : a ≤ c ∧ b ≤ c := by
  unfold m2 at h
  split at h
  · rename_i h1
    exact ⟨Nat.le_trans (Nat.le_of_lt h1) h, h⟩
  · rename_i h1
    exact ⟨h, Nat.le_trans (Nat.le_of_not_lt h1) h⟩
/-- What may be said: bounds. -/
theorem check_ok {p : Pm} (h : checkP p = 0) : p.a0.toNat ≤ 1073741824 ∧ (p.a1.toNat ≤ 65536 ∧ p.a2.toNat ≤ 65536 ∧ p.a3.toNat ≤ 65536 ∧ p.a4.toNat ≤ 65536) ∧ (p.a5.toNat ≤ 8 ∧ p.a6.toNat ≤ 8) ∧ p.a7.toNat < 16384 ∧ (2 ≤ p.a8.toNat ∧ p.a8.toNat ≤ 4) ∧ p.s.l.length ≤ 20 := by
  unfold checkP at h
  split at h
  · exact absurd h (by decide)
  rename_i h1
  split at h
  · exact absurd h (by decide)
  rename_i h2
  split at h
  · exact absurd h (by decide)
  rename_i h3
  split at h
  · exact absurd h (by decide)
  rename_i h4
  split at h
  · exact absurd h (by decide)
  rename_i h5
  split at h
  · exact absurd h (by decide)
  rename_i h6
  split at h
  · exact absurd h (by decide)
  rename_i h7
  split at h
  · exact absurd h (by decide)
  rename_i h8
  have h1 : m4 p.a1 p.a2 p.a3 p.a4 ≤ 65536#64 := Nat.le_of_not_lt h1
  obtain ⟨hx, q4⟩ := m2_le h1
  obtain ⟨hx, q3⟩ := m2_le hx
  obtain ⟨q1, q2⟩ := m2_le hx
  exact ⟨Nat.le_of_not_lt h2, ⟨q1, q2, q3, q4⟩, ⟨Nat.le_of_not_lt h4, Nat.le_of_not_lt h5⟩, Nat.lt_of_not_le h3, ⟨Nat.le_of_not_lt h6, Nat.le_of_not_lt h7⟩, by omega⟩
set_option maxRecDepth 20000 in
set_option maxHeartbeats 4000000 in
theorem fn_pput (p : Pm) (hp : p.s.Ok) : FnR Try.prog tds 23 1 [svB p.s] [.agg (pmC 0 p)] (fun _ => True)
    (fun y hs => ∃ t : Sl, t.Ok ∧ (checkP p = 0 → t.l = putP p) ∧ y = .tup [.c (svC 1 t), .c (.int .i64 (checkP p))] ∧ hs = [svB p.s, svB t]) := by
  refine fn_of_body tds_ok follows_ Try.func23 rfl (t := .a (.agg (pmC 0 p)) :: anys (Try.f23.ntmps - 1)) rfl (fun w r0 hr _ => ?_)
  obtain ⟨x0, rfl⟩ := List.length_eq_one_iff.1 hr
  (repeat first | (refine And.intro ?_ ?_; first | exact rfl | ((exact fun h => absurd h (by first | decide)); intro yy; clear yy) | (rotate_left; (exact fun h => absurd h (by first | decide)); intro yy; clear yy) | decide | omega) | (with_reducible refine frc_bytesL (by first | omega | decide) ?_) | (with_reducible refine frc_bytesM (by first | omega | decide) ?_))
  refine call_same (fn_pmcheck p) [0] rfl (by (repeat first | exact trivial | refine ent1 ?_)) (by refine eqC_bts ?_; (repeat first | exact trivial | refine ent1 ?_)) (fun _ _ => trivial) ?_
  rintro x hs' ⟨rfl, rfl⟩
  by_cases hc : checkP p = 0
  rotate_left
  · have k0 : decide (checkP p ≠ 0) = true := decide_eq_true hc
    (repeat first | (refine And.intro ?_ ?_; first | exact rfl | ((exact fun h => absurd h (by first | decide | (rw [k0]; decide))); intro yy; clear yy) | (rotate_left; (exact fun h => absurd h (by first | decide | (rw [k0]; decide))); intro yy; clear yy) | decide | omega) | (with_reducible refine frc_bytesL (by first | omega | decide) ?_) | (with_reducible refine frc_bytesM (by first | omega | decide) ?_))
    (repeat first | refine And.intro (by omega) ?_ | refine And.intro (by decide) ?_ | (with_reducible refine frc_parts (by first | omega | decide) ?_) | (with_reducible refine frc_bytesL (by first | omega | decide) ?_) | refine And.intro rfl ?_)
    refine ⟨.tup [.c (svC 1 ⟨true, 0, 0, 0, []⟩), .c (.int .i64 (checkP p))], _, ⟨[0, 1], ⟨rfl, rfl, rfl⟩, ?_⟩, ⟨true, 0, 0, 0, []⟩, nil_ok, fun h => absurd h hc, rfl, rfl⟩
    (repeat first | exact trivial | refine ent1 ?_)
    refine eqC_bts ?_
    (repeat first | exact trivial | refine ent1 ?_)
  have hb := check_ok hc
  have l0 : lenN p.a0 ≠ 0 := small_len (by have := hb.1; show p.a0.toNat ≤ 1073741824; omega)
  have l1 : lenN p.a1 ≠ 0 := small_len (by have := hb.2.1.1; show p.a1.toNat ≤ 1073741824; omega)
  have l2 : lenN p.a2 ≠ 0 := small_len (by have := hb.2.1.2.1; show p.a2.toNat ≤ 1073741824; omega)
  have l3 : lenN p.a3 ≠ 0 := small_len (by have := hb.2.1.2.2.1; show p.a3.toNat ≤ 1073741824; omega)
  have l4 : lenN p.a4 ≠ 0 := small_len (by have := hb.2.1.2.2.2; show p.a4.toNat ≤ 1073741824; omega)
  have l5 : lenN p.a5 ≠ 0 := small_len (by have := hb.2.2.1.1; show p.a5.toNat ≤ 1073741824; omega)
  have l6 : lenN p.a6 ≠ 0 := small_len (by have := hb.2.2.1.2; show p.a6.toNat ≤ 1073741824; omega)
  have l7 : lenN p.a7 ≠ 0 := small_len (by have := hb.2.2.2.1; show p.a7.toNat ≤ 1073741824; omega)
  have l8 : lenN p.a8 ≠ 0 := small_len (by have := hb.2.2.2.2.1.2; show p.a8.toNat ≤ 1073741824; omega)
  have hs20 := hb.2.2.2.2.2
  clear hb
  have k0 : decide (checkP p ≠ 0) = false := decide_eq_false (by omega)
  (repeat first | (refine And.intro ?_ ?_; first | exact rfl | ((exact fun h => absurd h (by first | decide | (rw [k0]; decide))); intro yy; clear yy) | (rotate_left; (exact fun h => absurd h (by first | decide | (rw [k0]; decide))); intro yy; clear yy) | decide | omega) | (with_reducible refine frc_bytesL (by first | omega | decide) ?_) | (with_reducible refine frc_bytesM (by first | omega | decide) ?_))
  (repeat first | (refine And.intro ?_ ?_; first | exact rfl | ((exact fun h => absurd h (by first | decide)); intro yy; clear yy) | (rotate_left; (exact fun h => absurd h (by first | decide)); intro yy; clear yy) | decide | omega) | (with_reducible refine frc_bytesL (by first | omega | decide) ?_) | (with_reducible refine frc_bytesM (by first | omega | decide) ?_))
  refine call_same (fn_number0 1#64 p.a0 (by decide) l0) [2] rfl (by (repeat first | exact trivial | refine ent1 ?_)) (by (repeat first | exact trivial | refine ent1 ?_)) (fun _ _ => trivial) ?_
  rintro x hs' ⟨B0, c0, hB0, hc0, rfl, rfl⟩
  have q0 : B0.length ≤ 24 := by rw [hB0]; exact numL_len _ _
  (repeat first | (refine And.intro ?_ ?_; first | exact rfl | ((exact fun h => absurd h (by first | decide)); intro yy; clear yy) | (rotate_left; (exact fun h => absurd h (by first | decide)); intro yy; clear yy) | decide | omega) | (with_reducible refine frc_bytesL (by first | omega | decide) ?_) | (with_reducible refine frc_bytesM (by first | omega | decide) ?_))
  refine call_same (fn_number 4#64 p.a1 B0 c0 (by decide) l1 (Nat.le_trans q0 (by decide)) hc0) [2, 3] rfl (by (repeat first | exact trivial | refine ent1 ?_)) (by (repeat first | exact trivial | refine ent1 ?_)) (fun _ _ => trivial) ?_
  rintro x hs' ⟨B1, c1, hB1, hc1, rfl, rfl⟩
  have q1 : B1.length ≤ 48 := by rw [hB1]; exact app_len q0 (numL_len _ _)
  (repeat first | (refine And.intro ?_ ?_; first | exact rfl | ((exact fun h => absurd h (by first | decide)); intro yy; clear yy) | (rotate_left; (exact fun h => absurd h (by first | decide)); intro yy; clear yy) | decide | omega) | (with_reducible refine frc_bytesL (by first | omega | decide) ?_) | (with_reducible refine frc_bytesM (by first | omega | decide) ?_))
  refine call_same (fn_number 5#64 p.a2 B1 c1 (by decide) l2 (Nat.le_trans q1 (by decide)) hc1) [2, 4] rfl (by (repeat first | exact trivial | refine ent1 ?_)) (by (repeat first | exact trivial | refine ent1 ?_)) (fun _ _ => trivial) ?_
  rintro x hs' ⟨B2, c2, hB2, hc2, rfl, rfl⟩
  have q2 : B2.length ≤ 72 := by rw [hB2]; exact app_len q1 (numL_len _ _)
  (repeat first | (refine And.intro ?_ ?_; first | exact rfl | ((exact fun h => absurd h (by first | decide)); intro yy; clear yy) | (rotate_left; (exact fun h => absurd h (by first | decide)); intro yy; clear yy) | decide | omega) | (with_reducible refine frc_bytesL (by first | omega | decide) ?_) | (with_reducible refine frc_bytesM (by first | omega | decide) ?_))
  refine call_same (fn_number 6#64 p.a3 B2 c2 (by decide) l3 (Nat.le_trans q2 (by decide)) hc2) [2, 5] rfl (by (repeat first | exact trivial | refine ent1 ?_)) (by (repeat first | exact trivial | refine ent1 ?_)) (fun _ _ => trivial) ?_
  rintro x hs' ⟨B3, c3, hB3, hc3, rfl, rfl⟩
  have q3 : B3.length ≤ 96 := by rw [hB3]; exact app_len q2 (numL_len _ _)
  (repeat first | (refine And.intro ?_ ?_; first | exact rfl | ((exact fun h => absurd h (by first | decide)); intro yy; clear yy) | (rotate_left; (exact fun h => absurd h (by first | decide)); intro yy; clear yy) | decide | omega) | (with_reducible refine frc_bytesL (by first | omega | decide) ?_) | (with_reducible refine frc_bytesM (by first | omega | decide) ?_))
  refine call_same (fn_number 7#64 p.a4 B3 c3 (by decide) l4 (Nat.le_trans q3 (by decide)) hc3) [2, 6] rfl (by (repeat first | exact trivial | refine ent1 ?_)) (by (repeat first | exact trivial | refine ent1 ?_)) (fun _ _ => trivial) ?_
  rintro x hs' ⟨B4, c4, hB4, hc4, rfl, rfl⟩
  have q4 : B4.length ≤ 120 := by rw [hB4]; exact app_len q3 (numL_len _ _)
  (repeat first | (refine And.intro ?_ ?_; first | exact rfl | ((exact fun h => absurd h (by first | decide)); intro yy; clear yy) | (rotate_left; (exact fun h => absurd h (by first | decide)); intro yy; clear yy) | decide | omega) | (with_reducible refine frc_bytesL (by first | omega | decide) ?_) | (with_reducible refine frc_bytesM (by first | omega | decide) ?_))
  refine call_same (fn_number 8#64 p.a5 B4 c4 (by decide) l5 (Nat.le_trans q4 (by decide)) hc4) [2, 7] rfl (by (repeat first | exact trivial | refine ent1 ?_)) (by (repeat first | exact trivial | refine ent1 ?_)) (fun _ _ => trivial) ?_
  rintro x hs' ⟨B5, c5, hB5, hc5, rfl, rfl⟩
  have q5 : B5.length ≤ 144 := by rw [hB5]; exact app_len q4 (numL_len _ _)
  (repeat first | (refine And.intro ?_ ?_; first | exact rfl | ((exact fun h => absurd h (by first | decide)); intro yy; clear yy) | (rotate_left; (exact fun h => absurd h (by first | decide)); intro yy; clear yy) | decide | omega) | (with_reducible refine frc_bytesL (by first | omega | decide) ?_) | (with_reducible refine frc_bytesM (by first | omega | decide) ?_))
  refine call_same (fn_number 9#64 p.a6 B5 c5 (by decide) l6 (Nat.le_trans q5 (by decide)) hc5) [2, 8] rfl (by (repeat first | exact trivial | refine ent1 ?_)) (by (repeat first | exact trivial | refine ent1 ?_)) (fun _ _ => trivial) ?_
  rintro x hs' ⟨B6, c6, hB6, hc6, rfl, rfl⟩
  have q6 : B6.length ≤ 168 := by rw [hB6]; exact app_len q5 (numL_len _ _)
  (repeat first | (refine And.intro ?_ ?_; first | exact rfl | ((exact fun h => absurd h (by first | decide)); intro yy; clear yy) | (rotate_left; (exact fun h => absurd h (by first | decide)); intro yy; clear yy) | decide | omega) | (with_reducible refine frc_bytesL (by first | omega | decide) ?_) | (with_reducible refine frc_bytesM (by first | omega | decide) ?_))
  refine call_same (fn_number 11#64 p.a7 B6 c6 (by decide) l7 (Nat.le_trans q6 (by decide)) hc6) [2, 9] rfl (by (repeat first | exact trivial | refine ent1 ?_)) (by (repeat first | exact trivial | refine ent1 ?_)) (fun _ _ => trivial) ?_
  rintro x hs' ⟨B7, c7, hB7, hc7, rfl, rfl⟩
  have q7 : B7.length ≤ 192 := by rw [hB7]; exact app_len q6 (numL_len _ _)
  (repeat first | (refine And.intro ?_ ?_; first | exact rfl | ((exact fun h => absurd h (by first | decide)); intro yy; clear yy) | (rotate_left; (exact fun h => absurd h (by first | decide)); intro yy; clear yy) | decide | omega) | (with_reducible refine frc_bytesL (by first | omega | decide) ?_) | (with_reducible refine frc_bytesM (by first | omega | decide) ?_))
  refine call_same (fn_number 14#64 p.a8 B7 c7 (by decide) l8 (Nat.le_trans q7 (by decide)) hc7) [2, 10] rfl (by (repeat first | exact trivial | refine ent1 ?_)) (by (repeat first | exact trivial | refine ent1 ?_)) (fun _ _ => trivial) ?_
  rintro x hs' ⟨B8, c8, hB8, hc8, rfl, rfl⟩
  have q8 : B8.length ≤ 216 := by rw [hB8]; exact app_len q7 (numL_len _ _)
  (repeat first | (refine And.intro ?_ ?_; first | exact rfl | ((exact fun h => absurd h (by first | decide)); intro yy; clear yy) | (rotate_left; (exact fun h => absurd h (by first | decide)); intro yy; clear yy) | decide | omega) | (with_reducible refine frc_bytesL (by first | omega | decide) ?_) | (with_reducible refine frc_bytesM (by first | omega | decide) ?_))
  refine call_same (fn_wint [15#64] 1 1 B8 c8 (by intro x hx; simp at hx; subst hx; decide) (Nat.le_refl _) (by simp) (Nat.le_trans q8 (by decide)) hc8) [12, 2, 11] rfl (by (repeat first | exact trivial | refine ent1 ?_)) ?_ (fun _ _ => trivial) ?_
  · (repeat first | exact trivial | refine ent1 ?_)
    refine ⟨fun j hj => eqC_nums (nums1 _) j, ?_⟩
    (repeat first | exact trivial | refine ent1 ?_)
  rintro x hs' ⟨-, hk⟩
  obtain ⟨c9, hc9, rfl, rfl⟩ := hk (by simp)
  have q9 : (B8 ++ putAll [15#64]).length ≤ 216 + 8 := app_len q8 (one_len 15#64)
  have z9 : 0 < (B8 ++ putAll [15#64]).length := by rw [List.length_append, one_15]; omega
  generalize hB9 : B8 ++ putAll [15#64] = B9 at hc9 q9 z9 ⊢
  (repeat first | (refine And.intro ?_ ?_; first | exact rfl | ((exact fun h => absurd h (by first | decide)); intro yy; clear yy) | (rotate_left; (exact fun h => absurd h (by first | decide)); intro yy; clear yy) | decide | omega) | (with_reducible refine frc_bytesL (by first | omega | decide) ?_) | (with_reducible refine frc_bytesM (by first | omega | decide) ?_))
  refine call_same (fn_wlong p.s hp B9 c9 (Nat.le_trans q9 (by decide)) hc9) [0, 2, 13] rfl (by (repeat first | exact trivial | refine ent1 ?_)) ?_ (fun _ _ => trivial) ?_
  · refine eqC_bts ?_
    (repeat first | exact trivial | refine ent1 ?_)
  rintro x hs' ⟨c10, hc10, rfl, rfl⟩
  have q10 : (B9 ++ longL p.s.l).length ≤ 216 + 8 + (8 + p.s.l.length) := app_len q9 (longL_len p.s.l)
  have z10 : 0 < (B9 ++ longL p.s.l).length := by rw [List.length_append]; omega
  generalize hB10 : B9 ++ longL p.s.l = B10 at hc10 q10 z10 ⊢
  (repeat first | (refine And.intro ?_ ?_; first | exact rfl | ((exact fun h => absurd h (by first | decide)); intro yy; clear yy) | (rotate_left; (exact fun h => absurd h (by first | decide)); intro yy; clear yy) | decide | omega) | (with_reducible refine frc_bytesL (by first | omega | decide) ?_) | (with_reducible refine frc_bytesM (by first | omega | decide) ?_))
  have hP : putP p = B10 := by rw [← hB10, ← hB9, hB8, hB7, hB6, hB5, hB4, hB3, hB2, hB1, hB0]; rfl
  refine call_same (fn_wdone B10 c10 (by omega) hc10 z10) [2, 14] rfl (by (repeat first | exact trivial | refine ent1 ?_)) (by (repeat first | exact trivial | refine ent1 ?_)) (fun _ _ => trivial) ?_
  rintro x hs' ⟨c11, hc11, rfl, rfl⟩
  (repeat first | (refine And.intro ?_ ?_; first | exact rfl | ((exact fun h => absurd h (by first | decide)); intro yy; clear yy) | (rotate_left; (exact fun h => absurd h (by first | decide)); intro yy; clear yy) | decide | omega) | (with_reducible refine frc_bytesL (by first | omega | decide) ?_) | (with_reducible refine frc_bytesM (by first | omega | decide) ?_))
  rw [hc, hP]
  refine ⟨.tup [.c (svC 1 ⟨false, c11, 0, c11, B10⟩), .c (.int .i64 0)], _, ⟨[0, 15], ⟨rfl, rfl, rfl⟩, ?_⟩, ⟨false, c11, 0, c11, B10⟩, own_ok hc11 (by omega), fun _ => rfl, rfl, rfl⟩
  (repeat first | exact trivial | refine ent1 ?_)
  refine eqC_bts ?_
  (repeat first | exact trivial | refine ent1 ?_)
  refine ⟨fun j hj => eqC_winBM (Nat.le_refl _), ?_⟩
  (repeat first | exact trivial | refine ent1 ?_)
end Sx
end Go.Proofs.Ytkjdkeolkigibaa
end

section
/-
  What an endpoint says, put as bytes, is taken back: plain. No condition.
-/
namespace Go.Proofs.Ytkjdkeolkigibaa
set_option linter.unusedVariables false
namespace Vi
open Sha Sx

theorem nx_put {n : BitVec 64} (h0 : lenN n ≠ 0) (r : Bs) : nextM (putL n ++ r) 0 = ((n, lenN n, true), r, 0) := by
  obtain ⟨a, b⟩ := take_wide (lenN_ok h0) h0 (Nat.le_refl _) r
  have ht : takeM (wideL n (lenN n) ++ r) = (n, lenN n, 0) := by
    unfold takeM
    rw [if_neg, a, b]
    simp only [List.length_append, wideL_len, a]
    omega
  unfold putL nextM
  rw [if_neg (by decide), ht]
  simp
theorem lg_put {v : Bs} {m : Nat} (hv : v.length ≤ m) (hm : m ≤ 1000000) (r : Bs) : longM (longL v ++ r) 0 m = (v, r, 0) := by
  have h1 : (BitVec.ofNat 64 v.length).toNat = v.length := by rw [BitVec.toNat_ofNat]; omega
  have h2 : lenN (BitVec.ofNat 64 v.length) ≠ 0 := by
    have := lenN_spec (BitVec.ofNat 64 v.length)
    omega
  unfold longM countM longL
  rw [List.append_assoc, nx_put h2]
  simp only [h1]
  rw [if_neg (by decide), if_neg (by omega)]
  unfold bytesM
  rw [if_neg (fun h => h rfl), if_neg (by rw [List.length_append]; omega)]
  simp
theorem numL_eq (id n : BitVec 64) : numL id n = putL id ++ longL (putL n) := by
  unfold numL longL
  simp only [putAll, List.append_nil, putL_len, BitVec.ofInt_natCast]
theorem putK_new {k v : BitVec 64} : ∀ {D : Said}, hasK k D = false → putK k v D = D ++ [(k, v)]
  | [], _ => rfl
  | x :: D, h => by
    simp only [hasK, Bool.or_eq_false_iff, decide_eq_false_iff_not] at h
    simp only [putK]
    rw [if_neg h.1, putK_new h.2]; rfl
theorem putK_two {k u v : BitVec 64} : ∀ {D : Said}, putK k v (putK k u D) = putK k v D
  | [] => by simp [putK]
  | x :: D => by
    simp only [putK]
    split
    · simp [putK]
    · rename_i h
      simp only [putK]
      rw [if_neg h, putK_two]
theorem own_num {id n : BitVec 64} {D : Said} (h : numId id = true) (h0 : lenN n ≠ 0) : ownM id (putL n) D = (0, putK id n (putK id 0#64 D)) := by
  unfold ownM
  rw [h]
  have := nx_put h0 []
  rw [List.append_nil] at this
  simp only [this]
  rfl
theorem one_num {id n : BitVec 64} {D : Said} {m : Nat} {src : Bs} (hi : lenN id ≠ 0) (hid : numId id = true) (h15 : id ≠ 15#64) (hn : lenN n ≠ 0) (hm : 8 ≤ m) (hm2 : m ≤ 1000000) (hk : hasK id D = false) (r : Bs) :
    oneP m (numL id n ++ r) D src = (0, r, D ++ [(id, n)], src) := by
  have hl : (putL n).length ≤ m := by have := lenN_le n; rw [putL_len]; omega
  rw [numL_eq, List.append_assoc, oneP_ok (nx_put hi _) (lg_put hl hm2 r) rfl hk (own_num hid hn), if_neg h15, putK_two, putK_new hk]
theorem numL_pos {id n : BitVec 64} (h : lenN n ≠ 0) : 1 ≤ (numL id n).length := by
  rw [numL_eq]
  unfold longL
  simp only [List.length_append, putL_len]
  omega
theorem all_num {id n : BitVec 64} {D : Said} {m f : Nat} {src : Bs} (hi : lenN id ≠ 0) (hid : numId id = true) (h15 : id ≠ 15#64) (hn : lenN n ≠ 0) (hm : 8 ≤ m) (hm2 : m ≤ 1000000) (hk : hasK id D = false) (r : Bs) :
    allP m (f + 1) (numL id n ++ r) D src = allP m f r (D ++ [(id, n)]) src := by
  have := numL_pos (id := id) hn
  exact allP_step (by rw [List.length_append]; omega) (one_num hi hid h15 hn hm hm2 hk r)
theorem one_src {D : Said} {m : Nat} {src v : Bs} (hv : v.length ≤ m) (hm2 : m ≤ 1000000) (hk : hasK 15#64 D = false) (r : Bs) :
    oneP m (putAll [15#64] ++ longL v ++ r) D src = (0, r, D ++ [(15#64, 0#64)], v) := by
  have ho : ownM 15#64 v D = (0, putK 15#64 0#64 D) := rfl
  have e : putAll [15#64] = putL 15#64 := by simp [putAll]
  rw [e, List.append_assoc, oneP_ok (nx_put (by decide) _) (lg_put hv hm2 r) rfl hk ho, if_pos rfl, putK_new hk]
/-- Two that say the same. -/
def sameP (p q : Pm) : Prop := p.a0 = q.a0 ∧ p.a1 = q.a1 ∧ p.a2 = q.a2 ∧ p.a3 = q.a3 ∧ p.a4 = q.a4 ∧ p.a5 = q.a5 ∧ p.a6 = q.a6 ∧ p.a7 = q.a7 ∧ p.a8 = q.a8 ∧ p.s.l = q.s.l
theorem sameP.check {p q : Pm} (h : sameP p q) : checkP p = checkP q := by
  obtain ⟨h0, h1, h2, h3, h4, h5, h6, h7, h8, h9⟩ := h
  unfold checkP
  rw [h0, h1, h2, h3, h4, h5, h6, h7, h8, h9]
theorem sameP.put {p q : Pm} (h : sameP p q) : putP p = putP q := by
  obtain ⟨h0, h1, h2, h3, h4, h5, h6, h7, h8, h9⟩ := h
  unfold putP
  rw [h0, h1, h2, h3, h4, h5, h6, h7, h8, h9]
theorem all_put {p : Pm} (hc : checkP p = 0) : allP (putP p).length (putP p).length (putP p) [] [] =
    (0, [(1#64, p.a0), (4#64, p.a1), (5#64, p.a2), (6#64, p.a3), (7#64, p.a4), (8#64, p.a5), (9#64, p.a6), (11#64, p.a7), (14#64, p.a8), (15#64, 0#64)], p.s.l) := by
  have hb := check_ok hc
  have l0 : lenN p.a0 ≠ 0 := small_len (by have := hb.1; show p.a0.toNat ≤ 1073741824; omega)
  have l1 : lenN p.a1 ≠ 0 := small_len (by have := hb.2.1.1; show p.a1.toNat ≤ 1073741824; omega)
  have l2 : lenN p.a2 ≠ 0 := small_len (by have := hb.2.1.2.1; show p.a2.toNat ≤ 1073741824; omega)
  have l3 : lenN p.a3 ≠ 0 := small_len (by have := hb.2.1.2.2.1; show p.a3.toNat ≤ 1073741824; omega)
  have l4 : lenN p.a4 ≠ 0 := small_len (by have := hb.2.1.2.2.2; show p.a4.toNat ≤ 1073741824; omega)
  have l5 : lenN p.a5 ≠ 0 := small_len (by have := hb.2.2.1.1; show p.a5.toNat ≤ 1073741824; omega)
  have l6 : lenN p.a6 ≠ 0 := small_len (by have := hb.2.2.1.2; show p.a6.toNat ≤ 1073741824; omega)
  have l7 : lenN p.a7 ≠ 0 := small_len (by have := hb.2.2.2.1; show p.a7.toNat ≤ 1073741824; omega)
  have l8 : lenN p.a8 ≠ 0 := small_len (by have := hb.2.2.2.2.1.2; show p.a8.toNat ≤ 1073741824; omega)
  have q0 := numL_pos (id := 1#64) l0
  have q1 := numL_pos (id := 4#64) l1
  have q2 := numL_pos (id := 5#64) l2
  have q3 := numL_pos (id := 6#64) l3
  have q4 := numL_pos (id := 7#64) l4
  have q5 := numL_pos (id := 8#64) l5
  have q6 := numL_pos (id := 9#64) l6
  have q7 := numL_pos (id := 11#64) l7
  have q8 := numL_pos (id := 14#64) l8
  have u0 := numL_len 1#64 p.a0
  have u1 := numL_len 4#64 p.a1
  have u2 := numL_len 5#64 p.a2
  have u3 := numL_len 6#64 p.a3
  have u4 := numL_len 7#64 p.a4
  have u5 := numL_len 8#64 p.a5
  have u6 := numL_len 9#64 p.a6
  have u7 := numL_len 11#64 p.a7
  have u8 := numL_len 14#64 p.a8
  have u9 := longL_len p.s.l
  have u10 : p.s.l.length ≤ (longL p.s.l).length := by unfold longL; simp
  have hlen : (putP p).length = (numL 1#64 p.a0).length + (numL 4#64 p.a1).length + (numL 5#64 p.a2).length + (numL 6#64 p.a3).length + (numL 7#64 p.a4).length + (numL 8#64 p.a5).length + (numL 9#64 p.a6).length + (numL 11#64 p.a7).length + (numL 14#64 p.a8).length + 1 + (longL p.s.l).length := by
    unfold putP
    simp only [List.length_append, one_15]
  generalize hm : (putP p).length = m at hlen
  obtain ⟨f, hf⟩ : ∃ f, m = f + 10 := ⟨m - 10, by omega⟩
  have hm8 : 8 ≤ m := by omega
  have hm2 : m ≤ 1000000 := by omega
  have e : putP p = numL 1#64 p.a0 ++ (numL 4#64 p.a1 ++ (numL 5#64 p.a2 ++ (numL 6#64 p.a3 ++ (numL 7#64 p.a4 ++ (numL 8#64 p.a5 ++ (numL 9#64 p.a6 ++ (numL 11#64 p.a7 ++ (numL 14#64 p.a8 ++ (putAll [15#64] ++ longL p.s.l ++ []))))))))) := by
    unfold putP
    simp only [List.append_assoc, List.append_nil]
  rw [e, show allP m m = allP m (f + 10) by rw [← hf],
    all_num (by decide) rfl (by decide) l0 hm8 hm2 rfl, all_num (by decide) rfl (by decide) l1 hm8 hm2 rfl, all_num (by decide) rfl (by decide) l2 hm8 hm2 rfl,
    all_num (by decide) rfl (by decide) l3 hm8 hm2 rfl, all_num (by decide) rfl (by decide) l4 hm8 hm2 rfl, all_num (by decide) rfl (by decide) l5 hm8 hm2 rfl,
    all_num (by decide) rfl (by decide) l6 hm8 hm2 rfl, all_num (by decide) rfl (by decide) l7 hm8 hm2 rfl, all_num (by decide) rfl (by decide) l8 hm8 hm2 rfl,
    allP_step (by simp only [List.length_append, one_15]; omega) (one_src (by omega) hm2 rfl []), allP_end]
  rfl
/-- What was put is taken. -/
theorem take_put {p q : Pm} {e : Int} (hc : checkP p = 0) (h : takeP (putP p) e q) : e = 0 ∧ sameP q p := by
  unfold takeP at h
  rw [all_put hc] at h
  obtain ⟨-, h⟩ := h
  obtain ⟨-, h⟩ := h rfl
  obtain ⟨q', -, hi, h1, h2⟩ := h rfl
  have hs : sameP q' p := by
    obtain ⟨h0, h1, h2, h3, h4, h5, h6, h7, h8, h9⟩ := hi
    exact ⟨h0, h1, h2, h3, h4, h5, h6, h7, h8, h9⟩
  obtain ⟨rfl, rfl⟩ := h2 (by rw [hs.check]; exact hc)
  exact ⟨rfl, hs⟩
end Vi
end Go.Proofs.Ytkjdkeolkigibaa
end

section
/-
  The document's numbers of one, two, four or eight bytes. No condition.
-/
namespace Go.Proofs.Ytkjdkeolkigibaa
set_option linter.unusedVariables false
namespace Vi
open Sha
theorem shr_div (n : BitVec 64) (j : Nat) : (n >>> (8 * j)) / 256#64 = n >>> (8 * (j + 1)) := by
  apply BitVec.eq_of_toNat_eq
  rw [BitVec.toNat_udiv, BitVec.toNat_ushiftRight, BitVec.toNat_ushiftRight, Nat.shiftRight_eq_div_pow, Nat.shiftRight_eq_div_pow, Nat.mul_add, Nat.pow_add, ← Nat.div_div_eq_div_mul]
  rfl
theorem shr_mod (n : BitVec 64) (j : Nat) : ((n >>> (8 * j)) % 256#64).setWidth 8 = byteN n j := by
  apply BitVec.eq_of_toNat_eq
  rw [byteN_toNat, BitVec.toNat_setWidth, BitVec.toNat_umod, BitVec.toNat_ushiftRight, Nat.shiftRight_eq_div_pow, Nat.pow_mul]
  show n.toNat / 256 ^ j % 256 % 256 = _
  omega
end Vi
namespace Sx
open Sha Vi

theorem fn_qlen (n : BitVec 64) : Fn Try.prog tds 66 [] [.c (.w64 n)] (fun _ => True) (fun x hs => x = .a (.c (.int .i64 (lenN n : Nat))) ∧ hs = []) := by
  refine fn_of_body tds_ok follows_ Try.func66 rfl (t := .a (.c (.w64 n)) :: anys (Try.f66.ntmps - 1)) rfl (fun w r0 hr _ => ?_)
  obtain rfl : r0 = [] := List.eq_nil_of_length_eq_zero hr
  have hs := lenN_spec n
  refine ⟨fun h => ?_, fun h0 => ?_⟩
  · have h : 4611686018427387903#64 < n := of_decide_eq_true h
    rw [BitVec.lt_def] at h
    have e : lenN n = 0 := by simp at h; omega
    rw [e]
    exact ⟨.a (.c (.int .i64 0)), [], ⟨[], ⟨rfl, rfl, rfl⟩, rfl, trivial⟩, rfl, rfl⟩
  have h0 : ¬ 4611686018427387903#64 < n := of_decide_eq_false h0
  rw [BitVec.lt_def] at h0
  simp at h0
  refine ⟨fun h => ?_, fun h1 => ?_⟩
  · have h : n < 64#64 := of_decide_eq_true h
    rw [BitVec.lt_def] at h
    have e : lenN n = 1 := by simp at h; omega
    rw [e]
    exact ⟨.a (.c (.int .i64 1)), [], ⟨[], ⟨rfl, rfl, rfl⟩, rfl, trivial⟩, rfl, rfl⟩
  have h1 : ¬ n < 64#64 := of_decide_eq_false h1
  rw [BitVec.lt_def] at h1
  simp at h1
  refine ⟨fun h => ?_, fun h2 => ?_⟩
  · have h : n < 16384#64 := of_decide_eq_true h
    rw [BitVec.lt_def] at h
    have e : lenN n = 2 := by simp at h; omega
    rw [e]
    exact ⟨.a (.c (.int .i64 2)), [], ⟨[], ⟨rfl, rfl, rfl⟩, rfl, trivial⟩, rfl, rfl⟩
  have h2 : ¬ n < 16384#64 := of_decide_eq_false h2
  rw [BitVec.lt_def] at h2
  simp at h2
  refine ⟨fun h => ?_, fun h3 => ?_⟩
  · have h : n < 1073741824#64 := of_decide_eq_true h
    rw [BitVec.lt_def] at h
    have e : lenN n = 4 := by simp at h; omega
    rw [e]
    exact ⟨.a (.c (.int .i64 4)), [], ⟨[], ⟨rfl, rfl, rfl⟩, rfl, trivial⟩, rfl, rfl⟩
  have h3 : ¬ n < 1073741824#64 := of_decide_eq_false h3
  rw [BitVec.lt_def] at h3
  simp at h3
  have e : lenN n = 8 := by omega
  rw [e]
  exact ⟨.a (.c (.int .i64 8)), [], ⟨[], ⟨rfl, rfl, rfl⟩, rfl, trivial⟩, rfl, rfl⟩
theorem fn_qtop (k : Nat) (hk : okSz k) : Fn Try.prog tds 79 [] [.c (.int .i64 (k : Nat))] (fun _ => True) (fun x hs => x = .a (.c (.int .i64 ((markB k).toNat : Nat))) ∧ hs = []) := by
  refine fn_of_body tds_ok follows_ Try.func79 rfl (t := .a (.c (.int .i64 (k : Nat))) :: anys (Try.f79.ntmps - 1)) rfl (fun w r0 hr _ => ?_)
  obtain rfl : r0 = [] := List.eq_nil_of_length_eq_zero hr
  rcases hk with rfl | rfl | rfl | rfl
  · refine ⟨fun h => ?_, fun h => absurd h (by decide)⟩
    exact ⟨.a (.c (.int .i64 0)), [], ⟨[], ⟨rfl, rfl, rfl⟩, rfl, trivial⟩, rfl, rfl⟩
  · refine ⟨fun h => absurd h (by decide), fun _ => ⟨fun h => ?_, fun h => absurd h (by decide)⟩⟩
    exact ⟨.a (.c (.int .i64 64)), [], ⟨[], ⟨rfl, rfl, rfl⟩, rfl, trivial⟩, rfl, rfl⟩
  · refine ⟨fun h => absurd h (by decide), fun _ => ⟨fun h => absurd h (by decide), fun _ => ⟨fun h => ?_, fun h => absurd h (by decide)⟩⟩⟩
    exact ⟨.a (.c (.int .i64 128)), [], ⟨[], ⟨rfl, rfl, rfl⟩, rfl, trivial⟩, rfl, rfl⟩
  · refine ⟨fun h => absurd h (by decide), fun _ => ⟨fun h => absurd h (by decide), fun _ => ⟨fun h => absurd h (by decide), fun _ => ⟨fun h => ?_, fun h => absurd h (by decide)⟩⟩⟩⟩
    exact ⟨.a (.c (.int .i64 192)), [], ⟨[], ⟨rfl, rfl, rfl⟩, rfl, trivial⟩, rfl, rfl⟩
theorem mark_add' {n : BitVec 64} {k : Nat} (hk : okSz k) (h0 : lenN n ≠ 0) (h1 : lenN n ≤ k) : byteN n (k - 1) + markB k = byteN n (k - 1) ||| markB k := by
  have := mark_add _ (head_lt hk h0 h1).1
  rcases hk with rfl | rfl | rfl | rfl
  · exact this.1.symm
  · exact this.2.1.symm
  · exact this.2.2.1.symm
  · exact this.2.2.2.symm
set_option maxRecDepth 20000 in
theorem fn_qwide (n : BitVec 64) (k : Nat) (hk : okSz k) (h0 : lenN n ≠ 0) (h1 : lenN n ≤ k) : Fn Try.prog tds 54 [] [.c (.w64 n), .c (.int .i64 (k : Nat))] (fun _ => True)
    (fun y hs => ∃ c', k ≤ c' ∧ y = .a (.c (.sl 0 0 0 (wideL n k).length c')) ∧ hs = [lsC (wideL n k) c']) := by
  refine fn_of_body tds_ok follows_ Try.func54 rfl (t := [.a (.c (.w64 (n))), .a (.c (.int .i64 ((k : Nat)))), .any, .any, .any, .any, .any, .any, .any, .any, .any, .any, .any, .any, .any, .any, .any, .any, .any, .any, .any, .any, .any, .any, .any, .any, .any, .any, .any, .any, .any, .any, .any, .any, .any, .any, .any, .any, .any, .any, .any, .any, .any, .any, .any]) rfl (fun w r0 hr _ => ?_)
  obtain rfl : r0 = [] := List.eq_nil_of_length_eq_zero hr
  have hk8 : 1 ≤ k ∧ k ≤ 8 := by rcases hk with rfl | rfl | rfl | rfl <;> omega
  (repeat first | refine And.intro (by omega) ?_ | refine And.intro (by decide) ?_ | (with_reducible refine frc_parts (by first | omega | decide) ?_) | (with_reducible refine frc_bytesL (by first | omega | decide) ?_) | refine And.intro rfl ?_)
  refine call_same (fn_qlen n) [] rfl (by (repeat first | exact trivial | refine ent1 ?_)) trivial (fun _ _ => trivial) ?_
  rintro x hs ⟨rfl, rfl⟩
  have e1 : decide ((lenN n : Int) = 0) = false := decide_eq_false (by omega)
  (repeat first | refine And.intro (by omega) ?_ | refine And.intro (by decide) ?_ | refine And.intro rfl ?_ | refine And.intro (fun _ => ?_) (fun h => Bool.noConfusion h) | refine And.intro (fun h => Bool.noConfusion h) (fun _ => ?_) | refine And.intro (fun _ => ?_) (fun h => absurd h (by rw [e1]; decide)) | refine And.intro (fun h => absurd h (by rw [e1]; decide)) (fun _ => ?_))
  refine call_same (fn_qlen n) [] rfl (by (repeat first | exact trivial | refine ent1 ?_)) trivial (fun _ _ => trivial) ?_
  rintro x hs ⟨rfl, rfl⟩
  have e2 : decide ((k : Int) < (lenN n : Int)) = false := decide_eq_false (by omega)
  (repeat first | refine And.intro (by omega) ?_ | refine And.intro (by decide) ?_ | refine And.intro rfl ?_ | refine And.intro (fun _ => ?_) (fun h => Bool.noConfusion h) | refine And.intro (fun h => Bool.noConfusion h) (fun _ => ?_) | refine And.intro (fun _ => ?_) (fun h => absurd h (by rw [e1]; decide)) | refine And.intro (fun h => absurd h (by rw [e1]; decide)) (fun _ => ?_) | refine And.intro (fun _ => ?_) (fun h => absurd h (by rw [e2]; decide)) | refine And.intro (fun h => absurd h (by rw [e2]; decide)) (fun _ => ?_))
  refine call_same (fn_qtop k hk) [] rfl (by (repeat first | exact trivial | refine ent1 ?_)) trivial (fun _ _ => trivial) ?_
  rintro x hs ⟨rfl, rfl⟩
  have e3 : decide (((markB k).toNat : Int) < 0) = false := decide_eq_false (by omega)
  (repeat first | refine And.intro (by omega) ?_ | refine And.intro (by decide) ?_ | refine And.intro rfl ?_ | refine And.intro (fun _ => ?_) (fun h => Bool.noConfusion h) | refine And.intro (fun h => Bool.noConfusion h) (fun _ => ?_) | refine And.intro (fun _ => ?_) (fun h => absurd h (by rw [e1]; decide)) | refine And.intro (fun h => absurd h (by rw [e1]; decide)) (fun _ => ?_) | refine And.intro (fun _ => ?_) (fun h => absurd h (by rw [e2]; decide)) | refine And.intro (fun h => absurd h (by rw [e2]; decide)) (fun _ => ?_) | refine And.intro (fun _ => ?_) (fun h => absurd h (by rw [e3]; decide)) | refine And.intro (fun h => absurd h (by rw [e3]; decide)) (fun _ => ?_))
  refine .inl ⟨Nat, fun j => ⟨[.a (.c (.w64 (n >>> (8 * j)))), .a (.c (.int .i64 ((k : Nat)))), .any, .any, .any, .a (.c (.p 0 0 0)), .a (.c (.int .i64 ((k : Int) - 1 - (j : Int)))), .any, .any, .any, .any, .any, .any, .any, .any, .any, .any, .any, .any, .any, .any, .any, .any, .any, .any, .any, .any, .any, .any, .any, .any, .any, .any, .any, .any, .any, .any, .any, .any, .any, .any, .any, .any, .any, .any], [[.row 8 fun i => .w8 (if k ≤ i + j ∧ i < k then byteN n (k - 1 - i) else 0#8)]]⟩, fun j => j ≤ k, fun j => 9 - j, ⟨0, [0], ⟨⟨rfl, rfl, rfl⟩, ?_⟩, by omega⟩, fun j hj => ?_⟩
  · (repeat first | exact trivial | refine ent1 ?_)
    refine ⟨fun i hi => ⟨(if_neg (by omega)).symm, trivial⟩, ?_⟩
    (repeat first | exact trivial | refine ent1 ?_)
  refine ⟨fun h => ?_, fun h => ?_⟩
  · have hlt : j < k := by have : (0 : Int) ≤ (k : Int) - 1 - j := of_decide_eq_true h; omega
    (repeat first | refine And.intro (by omega) ?_ | refine And.intro (by decide) ?_ | (with_reducible refine frc_parts (by first | omega | decide) ?_) | (with_reducible refine frc_bytesL (by first | omega | decide) ?_) | refine And.intro rfl ?_)
    refine ⟨j + 1, [0], ⟨⟨rfl, rfl, rfl⟩, ?_⟩, by omega, by dsimp only; omega⟩
    refine ⟨shr_div n j, ?_⟩
    (repeat first | exact trivial | refine ent1 ?_)
    refine ⟨fun i hi => eqC_w8 ?_, ?_⟩
    · have ei : ((k : Int) - 1 - (j : Int)).toNat + 0 = k - 1 - j := by omega
      rw [ei]
      refine upd_w8 (g := fun i => .w8 (if k ≤ i + (j + 1) ∧ i < k then byteN n (k - 1 - i) else 0#8)) ?_ (fun q hq => ?_) i
      · show SC.w8 _ = SC.w8 _
        rw [if_pos (by omega), shr_mod, show k - 1 - (k - 1 - j) = j by omega]
      · show SC.w8 _ = SC.w8 _
        have : (k ≤ q + j ∧ q < k) ↔ (k ≤ q + (j + 1) ∧ q < k) := by omega
        simp only [this]
    (repeat first | exact trivial | refine ent1 ?_)
  · obtain rfl : j = k := by have : ¬ (0 : Int) ≤ (k : Int) - 1 - j := of_decide_eq_false h; have hj : j ≤ k := hj; omega
    refine ⟨none, [], [(0, true), (1, true), (2, true), (3, false), (4, true), (5, true), (6, true)], [7], by kernel_rfl, ?_⟩
    (repeat first | refine And.intro (by omega) ?_ | refine And.intro (by decide) ?_ | (with_reducible refine frc_parts (by first | omega | decide) ?_) | (with_reducible refine frc_bytesL (by first | omega | decide) ?_) | refine And.intro rfl ?_)
    refine call_same (fn_qtop j hk) [] rfl (by (repeat first | exact trivial | refine ent1 ?_)) trivial (fun _ _ => trivial) ?_
    rintro x hs ⟨rfl, rfl⟩
    (repeat first | refine And.intro (by omega) ?_ | refine And.intro (by decide) ?_ | (with_reducible refine frc_parts (by first | omega | decide) ?_) | (with_reducible refine frc_bytesL (by first | omega | decide) ?_) | refine And.intro rfl ?_)
    refine frcN_of (m := 0) rfl ?_
    refine frcN_of (m := j) rfl ?_
    refine frcN_of (m := 0) rfl ?_
    refine frcN_of (m := j) rfl ?_
    refine frcN_of (m := 8) rfl ?_
    refine ⟨by show 0 + j ≤ 8; omega, ?_⟩
    refine ⟨⟨Nat.le_refl _, Nat.le_refl _, by show (0 + j) * 1 ≤ 140737488355328; omega⟩, fun c' hc' => ?_⟩
    refine ⟨.a (.c (.sl 0 0 0 (wideL n j).length c')), _, ⟨[2], ⟨rfl, rfl, rfl⟩, ?_⟩, c', by omega, rfl, rfl⟩
    refine ⟨rfl, by simp, rfl, ?_⟩
    refine ⟨rfl, fun i hi => eqC_bytes (fun i hi => ?_) i, trivial⟩
    have hi : i < j := by simpa using hi
    refine app_row (l := []) (m := wideL n j) (f := nthC []) rfl (wideL_len _ _) (fun i hi => absurd hi (by simp)) (fun i hi => ?_) i (by simpa using hi)
    have ht : BitVec.ofInt 8 ((markB j).toNat : Int) = markB j := by rw [BitVec.ofInt_natCast, BitVec.ofNat_toNat, BitVec.setWidth_eq]
    show upd _ 0 _ (i + 0) = _
    rw [L_wide hi]
    unfold upd
    by_cases hz : i = 0
    · rw [if_pos (show i + 0 = 0 from hz), if_pos hz]
      show SC.w8 ((if j ≤ 0 + j ∧ 0 < j then byteN n (j - 1 - 0) else 0#8) + BitVec.ofInt 8 ((markB j).toNat : Int)) = _
      rw [ht, if_pos (by omega), Nat.sub_zero, mark_add' hk h0 h1]
    · rw [if_neg (show ¬ i + 0 = 0 from hz), if_neg hz]
      show SC.w8 (if j ≤ i + j ∧ i < j then byteN n (j - 1 - i) else 0#8) = _
      rw [if_pos (by omega)]
set_option maxRecDepth 20000 in
theorem fn_qput (n : BitVec 64) (h0 : lenN n ≠ 0) : Fn Try.prog tds 29 [] [.c (.w64 n)] (fun _ => True)
    (fun y hs => ∃ c', lenN n ≤ c' ∧ y = .a (.c (.sl 0 0 0 (putL n).length c')) ∧ hs = [lsC (putL n) c']) := by
  refine fn_of_body tds_ok follows_ Try.func29 rfl (t := .a (.c (.w64 n)) :: anys (Try.f29.ntmps - 1)) rfl (fun w r0 hr _ => ?_)
  obtain rfl : r0 = [] := List.eq_nil_of_length_eq_zero hr
  (repeat first | refine And.intro (by omega) ?_ | refine And.intro (by decide) ?_ | (with_reducible refine frc_parts (by first | omega | decide) ?_) | (with_reducible refine frc_bytesL (by first | omega | decide) ?_) | refine And.intro rfl ?_)
  refine call_same (fn_qlen n) [] rfl (by (repeat first | exact trivial | refine ent1 ?_)) trivial (fun _ _ => trivial) ?_
  rintro x hs ⟨rfl, rfl⟩
  (repeat first | refine And.intro (by omega) ?_ | refine And.intro (by decide) ?_ | (with_reducible refine frc_parts (by first | omega | decide) ?_) | (with_reducible refine frc_bytesL (by first | omega | decide) ?_) | refine And.intro rfl ?_)
  refine call_same (fn_qwide n (lenN n) (lenN_ok h0) h0 (Nat.le_refl _)) [] rfl (by (repeat first | exact trivial | refine ent1 ?_)) trivial (fun _ _ => trivial) ?_
  rintro x hs ⟨c', hc', rfl, rfl⟩
  refine ⟨.a (.c (.sl 0 0 0 (putL n).length c')), _, ⟨[0], ⟨rfl, rfl, rfl⟩, ?_⟩, c', hc', rfl, rfl⟩
  (repeat first | exact trivial | refine ent1 ?_)
set_option maxRecDepth 20000 in
theorem fn_qlong (s : Sl) (hs : s.Ok) (b : Bs) (c : Nat) (hb : b.length ≤ 400000) (hc : b.length ≤ c) : FnR Try.prog tds 53 1 [svB s, lsC b c] [.c (.sl 1 0 0 b.length c), .c (svC 0 s)] (fun _ => True)
    (fun y hs => ∃ c', (b ++ longL s.l).length ≤ c' ∧ y = .a (.c (.sl 2 0 0 (b ++ longL s.l).length c')) ∧ hs = [svB s, [], lsC (b ++ longL s.l) c']) := by
  refine fn_of_body tds_ok follows_ Try.func53 rfl (t := .a (.c (.sl 1 0 0 b.length c)) :: .a (.c (svC 0 s)) :: anys (Try.f53.ntmps - 2)) rfl (fun w r0 hr0 _ => ?_)
  obtain ⟨x0, x1, rfl⟩ := len2' hr0
  have hsm := hs.small
  have hne := lenN_of hsm
  have hw : BitVec.ofInt 64 ((s.l.length : Nat) : Int) = BitVec.ofNat 64 s.l.length := BitVec.ofInt_natCast _ _
  have hll := longL_len s.l
  have hpl := putL_len (BitVec.ofNat 64 s.l.length)
  have hpl8 := lenN_le (BitVec.ofNat 64 s.l.length)
  (repeat first | refine And.intro (by omega) ?_ | refine And.intro (by decide) ?_ | (with_reducible refine frc_parts (by first | omega | decide) ?_) | (with_reducible refine frc_bytesL (by first | omega | decide) ?_) | refine And.intro rfl ?_)
  rw [hw]
  refine call_same (fn_qput (BitVec.ofNat 64 s.l.length) hne) [] rfl (by (repeat first | exact trivial | refine ent1 ?_)) trivial (fun _ _ => trivial) ?_
  rintro x hs' ⟨c1, hc1, rfl, rfl⟩
  refine ⟨by show 0 + (putL (BitVec.ofNat 64 s.l.length)).length ≤ c1; omega, ?_⟩
  refine ⟨⟨hc, by show 0 + c ≤ c; omega, by show (b.length + (putL (BitVec.ofNat 64 s.l.length)).length) * 1 ≤ 140737488355328; omega⟩, fun c2 hc2 => ?_⟩
  refine sn_bts rfl hs.fit (fun h => by rw [hs.nil h]; rfl) (fun g hg => ?_)
  refine ⟨⟨hc2, by show 0 + c2 ≤ c2; omega, by show (b.length + (putL (BitVec.ofNat 64 s.l.length)).length + s.l.length) * 1 ≤ 140737488355328; omega⟩, fun c3 hc3 => ?_⟩
  refine ⟨.a (.c (.sl 2 0 0 (b ++ longL s.l).length c3)), _, ⟨[0, 1, 4], ⟨rfl, rfl, rfl⟩, ?_⟩, c3, by simp only [longL, List.length_append]; omega, rfl, rfl⟩
  refine ⟨rfl, by simp only [longL, List.length_append]; omega, rfl, ?_⟩
  refine eqC_bts ?_
  (repeat first | exact trivial | refine ent1 ?_)
  refine ⟨fun i hi => eqC_bytes (fun i hi => ?_) i, trivial⟩
  rw [show b ++ longL s.l = (b ++ putL (BitVec.ofNat 64 s.l.length)) ++ s.l by simp [longL]]
  refine app_row (by simp) rfl (fun i hi => ?_) hg i (by simpa [longL, Nat.add_assoc] using hi)
  exact app_row rfl rfl (fun i hi => bytesF_lt hi) (fun i hi => by show SC.mp _ (bytesF _ _ i) = _; rw [bytesF_lt hi]; rfl) i hi
end Sx
end Go.Proofs.Ytkjdkeolkigibaa
end

section
/-
  What an endpoint says, by the document: what it can't be, its numbers, its bytes; two that are the same; one that may be. No condition.
-/
namespace Go.Proofs.Ytkjdkeolkigibaa
set_option linter.unusedVariables false
namespace Vi
open Sha Sx
def fitP (p : Pm) : Pm := ⟨p.a0 % 1073741825#64, p.a1 % 65537#64, p.a2 % 65537#64, p.a3 % 65537#64, p.a4 % 65537#64, p.a5 % 9#64, p.a6 % 9#64, p.a7 % 16384#64, 2#64 + p.a8 % 3#64, ⟨p.s.z, p.s.N, p.s.o, p.s.c, p.s.l.take 20⟩⟩
theorem take_ok20 {s : Sx.Sl} (h : s.Ok) (m : Nat) : Sx.Sl.Ok ⟨s.z, s.N, s.o, s.c, s.l.take m⟩ := by
  have h1 := h.fit
  have h2 := h.cap
  have h3 := h.small
  refine ⟨?_, ?_, fun hz => by rw [h.nil hz]; simp, ?_⟩ <;> simp only [List.length_take] <;> omega
theorem take_sub {s : Sx.Sl} (m : Nat) : Sub s ⟨s.z, s.N, s.o, s.c, s.l.take m⟩ := by
  refine ⟨id, fun _ => rfl, fun _ => ⟨Nat.le_refl _, by simp only [List.length_take]; omega⟩, fun i hi => ?_⟩
  simp only [List.length_take] at hi
  rw [Nat.sub_self, Nat.zero_add]
  unfold L
  simp only [List.getD_eq_getElem?_getD]
  rw [List.getElem?_take, if_pos (by omega)]
theorem fit_check (p : Pm) : checkP (fitP p) = 0 := by
  have m2k : ∀ {a b c : BitVec 64}, a ≤ c → b ≤ c → m2 a b ≤ c := fun {a b c} ha hb => by unfold m2; split <;> assumption
  have k1 : ∀ (a : BitVec 64), a % 65537#64 ≤ 65536#64 := fun a => by rw [BitVec.le_def, BitVec.toNat_umod]; have : a.toNat % 65537 < 65537 := Nat.mod_lt _ (by decide); show a.toNat % 65537 ≤ 65536; omega
  have k2 : ∀ (a : BitVec 64), a % 9#64 ≤ 8#64 := fun a => by rw [BitVec.le_def, BitVec.toNat_umod]; have : a.toNat % 9 < 9 := Nat.mod_lt _ (by decide); show a.toNat % 9 ≤ 8; omega
  have k3 : (2#64 + p.a8 % 3#64).toNat = 2 + p.a8.toNat % 3 := by
    have : p.a8.toNat % 3 < 3 := Nat.mod_lt _ (by decide)
    rw [BitVec.toNat_add, BitVec.toNat_umod]
    show (2 + p.a8.toNat % 3) % 2 ^ 64 = _
    omega
  unfold checkP fitP
  rw [if_neg, if_neg, if_neg, if_neg, if_neg, if_neg, if_neg, if_neg]
  · simp only [List.length_take]; omega
  · intro h
    have h : 4 < (2#64 + p.a8 % 3#64).toNat := h
    omega
  · intro h
    have h : (2#64 + p.a8 % 3#64).toNat < 2 := h
    omega
  · exact fun h => absurd (k2 p.a6) (Nat.not_le_of_lt h)
  · exact fun h => absurd (k2 p.a5) (Nat.not_le_of_lt h)
  · intro h
    have h : 16384 ≤ (p.a7 % 16384#64).toNat := h
    rw [BitVec.toNat_umod] at h
    have : p.a7.toNat % 16384 < 16384 := Nat.mod_lt _ (by decide)
    have h : 16384 ≤ p.a7.toNat % 16384 := h
    omega
  · intro h
    have h : 1073741824 < (p.a0 % 1073741825#64).toNat := h
    rw [BitVec.toNat_umod] at h
    have : p.a0.toNat % 1073741825 < 1073741825 := Nat.mod_lt _ (by decide)
    have h : 1073741824 < p.a0.toNat % 1073741825 := h
    omega
  · exact fun h => absurd (m2k (m2k (m2k (k1 p.a1) (k1 p.a2)) (k1 p.a3)) (k1 p.a4)) (Nat.not_le_of_lt h)
instance (p q : Pm) : Decidable (sameP p q) := by unfold sameP; infer_instance
end Vi
namespace Sx
open Sha Vi

abbrev nineL (p : Pm) : List (BitVec 64) := [p.a0, p.a1, p.a2, p.a3, p.a4, p.a5, p.a6, p.a7, p.a8]
theorem numsN {l : List (BitVec 64)} : ∀ {m : List SC}, m = l.map SC.w64 → ∀ (j : Nat) (x : BitVec 64), l[j]? = some x → nthC m j = .w64 x := by
  rintro m rfl j x h
  induction l generalizing j with
  | nil => simp at h
  | cons y l ih =>
    cases j with
    | zero => simp at h; subst h; rfl
    | succ j => exact ih j (by simpa using h)
set_option maxRecDepth 20000 in
set_option maxHeartbeats 8000000 in
theorem fn_lpfit (p : Pm) (hp : p.s.Ok) : FnR Try.prog tds 21 1 [svB p.s] [.agg (pmC 0 p)] (fun _ => True)
    (fun y hs => y = .a (.agg (pmC 0 (fitP p))) ∧ hs = [svB p.s]) := by
  refine fn_of_body tds_ok follows_ Try.func21 rfl (t := .a (.agg (pmC 0 p)) :: anys (Try.f21.ntmps - 1)) rfl (fun w r0 hr _ => ?_)
  obtain ⟨x0, rfl⟩ := List.length_eq_one_iff.1 hr
  have hf := hp.fit
  have hcp := hp.cap
  (repeat first | (refine And.intro ?_ ?_; first | exact rfl | ((exact fun h => absurd h (by first | decide)); intro yy; clear yy) | (rotate_left; (exact fun h => absurd h (by first | decide)); intro yy; clear yy) | decide | omega) | (with_reducible refine frc_bytesL (by first | omega | decide) ?_) | (with_reducible refine frc_bytesM (by first | omega | decide) ?_))
  refine ⟨none, [], [(0, true), (1, true), (2, true), (3, true), (4, true), (5, true), (6, true), (7, true), (8, true), (9, true), (10, true), (11, true), (12, true), (13, true), (14, true), (15, true), (16, true), (17, true), (18, true), (19, true), (20, true), (21, true), (22, true), (23, true), (24, true), (25, true), (26, true), (27, true), (28, true), (29, true), (30, true), (31, true), (32, true), (33, true), (34, true), (35, true)], [36], by kernel_rfl, ?_⟩
  (repeat first | (refine And.intro ?_ ?_; first | exact rfl | ((exact fun h => absurd h (by first | decide)); intro yy; clear yy) | (rotate_left; (exact fun h => absurd h (by first | decide)); intro yy; clear yy) | decide | omega) | (with_reducible refine frc_bytesL (by first | omega | decide) ?_) | (with_reducible refine frc_bytesM (by first | omega | decide) ?_))
  refine ⟨.a (.agg (pmC 0 (fitP p))), _, ⟨[0], ⟨rfl, rfl, rfl⟩, ?_⟩, rfl, rfl⟩
  (repeat first | exact trivial | refine ent1 ?_)
  refine ⟨by show (if p.s.c = 0 then p.s.o else p.s.o + 0 * 1) = p.s.o; split <;> omega, ?_, Nat.sub_zero _, ?_⟩
  · show _ = (p.s.l.take 20).length
    rw [List.length_take]
    split <;> omega
  refine eqC_bts ?_
  (repeat first | exact trivial | refine ent1 ?_)
set_option maxRecDepth 20000 in
set_option maxHeartbeats 8000000 in
theorem fn_psame (p q : Pm) (hp : p.s.Ok) (hq : q.s.Ok) : FnR Try.prog tds 28 2 [svB p.s, svB q.s] [.agg (pmC 0 p), .agg (pmC 1 q)] (fun _ => True)
    (fun y hs => y = .a (.c (.bool (decide (sameP p q)))) ∧ hs = [svB p.s, svB q.s]) := by
  refine fn_of_body tds_ok follows_ Try.func28 rfl (t := .a (.agg (pmC 0 p)) :: .a (.agg (pmC 1 q)) :: anys (Try.f28.ntmps - 2)) rfl (fun w r0 hr _ => ?_)
  obtain ⟨x0, x1, rfl⟩ := len2' hr
  by_cases h0 : p.a0 = q.a0
  rotate_left
  · have e0 : decide (p.a0 = q.a0) = false := decide_eq_false h0
    rw [show decide (sameP p q) = false from decide_eq_false fun h => h0 h.1]
    (repeat first | (refine And.intro ?_ ?_; first | exact rfl | ((exact fun h => absurd h (by first | decide | (rw [e0]; decide))); intro yy; clear yy) | (rotate_left; (exact fun h => absurd h (by first | decide | (rw [e0]; decide))); intro yy; clear yy) | decide | omega) | (with_reducible refine frc_bytesL (by first | omega | decide) ?_) | (with_reducible refine frc_bytesM (by first | omega | decide) ?_))
    refine ⟨.a (.c (.bool false)), _, ⟨[0, 1], ⟨rfl, rfl, rfl⟩, ?_⟩, rfl, rfl⟩
    (repeat first | exact trivial | refine ent1 ?_)
    refine eqC_bts (eqC_bts ?_)
    (repeat first | exact trivial | refine ent1 ?_)
  have e0 : decide (p.a0 = q.a0) = true := decide_eq_true h0
  by_cases h1 : p.a1 = q.a1
  rotate_left
  · have e1 : decide (p.a1 = q.a1) = false := decide_eq_false h1
    rw [show decide (sameP p q) = false from decide_eq_false fun h => h1 h.2.1]
    (repeat first | (refine And.intro ?_ ?_; first | exact rfl | ((exact fun h => absurd h (by first | decide | (rw [e0]; decide) | (rw [e1]; decide))); intro yy; clear yy) | (rotate_left; (exact fun h => absurd h (by first | decide | (rw [e0]; decide) | (rw [e1]; decide))); intro yy; clear yy) | decide | omega) | (with_reducible refine frc_bytesL (by first | omega | decide) ?_) | (with_reducible refine frc_bytesM (by first | omega | decide) ?_))
    refine ⟨.a (.c (.bool false)), _, ⟨[0, 1], ⟨rfl, rfl, rfl⟩, ?_⟩, rfl, rfl⟩
    (repeat first | exact trivial | refine ent1 ?_)
    refine eqC_bts (eqC_bts ?_)
    (repeat first | exact trivial | refine ent1 ?_)
  have e1 : decide (p.a1 = q.a1) = true := decide_eq_true h1
  by_cases h2 : p.a2 = q.a2
  rotate_left
  · have e2 : decide (p.a2 = q.a2) = false := decide_eq_false h2
    rw [show decide (sameP p q) = false from decide_eq_false fun h => h2 h.2.2.1]
    (repeat first | (refine And.intro ?_ ?_; first | exact rfl | ((exact fun h => absurd h (by first | decide | (rw [e0]; decide) | (rw [e1]; decide) | (rw [e2]; decide))); intro yy; clear yy) | (rotate_left; (exact fun h => absurd h (by first | decide | (rw [e0]; decide) | (rw [e1]; decide) | (rw [e2]; decide))); intro yy; clear yy) | decide | omega) | (with_reducible refine frc_bytesL (by first | omega | decide) ?_) | (with_reducible refine frc_bytesM (by first | omega | decide) ?_))
    refine ⟨.a (.c (.bool false)), _, ⟨[0, 1], ⟨rfl, rfl, rfl⟩, ?_⟩, rfl, rfl⟩
    (repeat first | exact trivial | refine ent1 ?_)
    refine eqC_bts (eqC_bts ?_)
    (repeat first | exact trivial | refine ent1 ?_)
  have e2 : decide (p.a2 = q.a2) = true := decide_eq_true h2
  by_cases h3 : p.a3 = q.a3
  rotate_left
  · have e3 : decide (p.a3 = q.a3) = false := decide_eq_false h3
    rw [show decide (sameP p q) = false from decide_eq_false fun h => h3 h.2.2.2.1]
    (repeat first | (refine And.intro ?_ ?_; first | exact rfl | ((exact fun h => absurd h (by first | decide | (rw [e0]; decide) | (rw [e1]; decide) | (rw [e2]; decide) | (rw [e3]; decide))); intro yy; clear yy) | (rotate_left; (exact fun h => absurd h (by first | decide | (rw [e0]; decide) | (rw [e1]; decide) | (rw [e2]; decide) | (rw [e3]; decide))); intro yy; clear yy) | decide | omega) | (with_reducible refine frc_bytesL (by first | omega | decide) ?_) | (with_reducible refine frc_bytesM (by first | omega | decide) ?_))
    refine ⟨.a (.c (.bool false)), _, ⟨[0, 1], ⟨rfl, rfl, rfl⟩, ?_⟩, rfl, rfl⟩
    (repeat first | exact trivial | refine ent1 ?_)
    refine eqC_bts (eqC_bts ?_)
    (repeat first | exact trivial | refine ent1 ?_)
  have e3 : decide (p.a3 = q.a3) = true := decide_eq_true h3
  by_cases h4 : p.a4 = q.a4
  rotate_left
  · have e4 : decide (p.a4 = q.a4) = false := decide_eq_false h4
    rw [show decide (sameP p q) = false from decide_eq_false fun h => h4 h.2.2.2.2.1]
    (repeat first | (refine And.intro ?_ ?_; first | exact rfl | ((exact fun h => absurd h (by first | decide | (rw [e0]; decide) | (rw [e1]; decide) | (rw [e2]; decide) | (rw [e3]; decide) | (rw [e4]; decide))); intro yy; clear yy) | (rotate_left; (exact fun h => absurd h (by first | decide | (rw [e0]; decide) | (rw [e1]; decide) | (rw [e2]; decide) | (rw [e3]; decide) | (rw [e4]; decide))); intro yy; clear yy) | decide | omega) | (with_reducible refine frc_bytesL (by first | omega | decide) ?_) | (with_reducible refine frc_bytesM (by first | omega | decide) ?_))
    refine ⟨.a (.c (.bool false)), _, ⟨[0, 1], ⟨rfl, rfl, rfl⟩, ?_⟩, rfl, rfl⟩
    (repeat first | exact trivial | refine ent1 ?_)
    refine eqC_bts (eqC_bts ?_)
    (repeat first | exact trivial | refine ent1 ?_)
  have e4 : decide (p.a4 = q.a4) = true := decide_eq_true h4
  by_cases h5 : p.a5 = q.a5
  rotate_left
  · have e5 : decide (p.a5 = q.a5) = false := decide_eq_false h5
    rw [show decide (sameP p q) = false from decide_eq_false fun h => h5 h.2.2.2.2.2.1]
    (repeat first | (refine And.intro ?_ ?_; first | exact rfl | ((exact fun h => absurd h (by first | decide | (rw [e0]; decide) | (rw [e1]; decide) | (rw [e2]; decide) | (rw [e3]; decide) | (rw [e4]; decide) | (rw [e5]; decide))); intro yy; clear yy) | (rotate_left; (exact fun h => absurd h (by first | decide | (rw [e0]; decide) | (rw [e1]; decide) | (rw [e2]; decide) | (rw [e3]; decide) | (rw [e4]; decide) | (rw [e5]; decide))); intro yy; clear yy) | decide | omega) | (with_reducible refine frc_bytesL (by first | omega | decide) ?_) | (with_reducible refine frc_bytesM (by first | omega | decide) ?_))
    refine ⟨.a (.c (.bool false)), _, ⟨[0, 1], ⟨rfl, rfl, rfl⟩, ?_⟩, rfl, rfl⟩
    (repeat first | exact trivial | refine ent1 ?_)
    refine eqC_bts (eqC_bts ?_)
    (repeat first | exact trivial | refine ent1 ?_)
  have e5 : decide (p.a5 = q.a5) = true := decide_eq_true h5
  by_cases h6 : p.a6 = q.a6
  rotate_left
  · have e6 : decide (p.a6 = q.a6) = false := decide_eq_false h6
    rw [show decide (sameP p q) = false from decide_eq_false fun h => h6 h.2.2.2.2.2.2.1]
    (repeat first | (refine And.intro ?_ ?_; first | exact rfl | ((exact fun h => absurd h (by first | decide | (rw [e0]; decide) | (rw [e1]; decide) | (rw [e2]; decide) | (rw [e3]; decide) | (rw [e4]; decide) | (rw [e5]; decide) | (rw [e6]; decide))); intro yy; clear yy) | (rotate_left; (exact fun h => absurd h (by first | decide | (rw [e0]; decide) | (rw [e1]; decide) | (rw [e2]; decide) | (rw [e3]; decide) | (rw [e4]; decide) | (rw [e5]; decide) | (rw [e6]; decide))); intro yy; clear yy) | decide | omega) | (with_reducible refine frc_bytesL (by first | omega | decide) ?_) | (with_reducible refine frc_bytesM (by first | omega | decide) ?_))
    refine ⟨.a (.c (.bool false)), _, ⟨[0, 1], ⟨rfl, rfl, rfl⟩, ?_⟩, rfl, rfl⟩
    (repeat first | exact trivial | refine ent1 ?_)
    refine eqC_bts (eqC_bts ?_)
    (repeat first | exact trivial | refine ent1 ?_)
  have e6 : decide (p.a6 = q.a6) = true := decide_eq_true h6
  by_cases h7 : p.a7 = q.a7
  rotate_left
  · have e7 : decide (p.a7 = q.a7) = false := decide_eq_false h7
    rw [show decide (sameP p q) = false from decide_eq_false fun h => h7 h.2.2.2.2.2.2.2.1]
    (repeat first | (refine And.intro ?_ ?_; first | exact rfl | ((exact fun h => absurd h (by first | decide | (rw [e0]; decide) | (rw [e1]; decide) | (rw [e2]; decide) | (rw [e3]; decide) | (rw [e4]; decide) | (rw [e5]; decide) | (rw [e6]; decide) | (rw [e7]; decide))); intro yy; clear yy) | (rotate_left; (exact fun h => absurd h (by first | decide | (rw [e0]; decide) | (rw [e1]; decide) | (rw [e2]; decide) | (rw [e3]; decide) | (rw [e4]; decide) | (rw [e5]; decide) | (rw [e6]; decide) | (rw [e7]; decide))); intro yy; clear yy) | decide | omega) | (with_reducible refine frc_bytesL (by first | omega | decide) ?_) | (with_reducible refine frc_bytesM (by first | omega | decide) ?_))
    refine ⟨.a (.c (.bool false)), _, ⟨[0, 1], ⟨rfl, rfl, rfl⟩, ?_⟩, rfl, rfl⟩
    (repeat first | exact trivial | refine ent1 ?_)
    refine eqC_bts (eqC_bts ?_)
    (repeat first | exact trivial | refine ent1 ?_)
  have e7 : decide (p.a7 = q.a7) = true := decide_eq_true h7
  by_cases h8 : p.a8 = q.a8
  rotate_left
  · have e8 : decide (p.a8 = q.a8) = false := decide_eq_false h8
    rw [show decide (sameP p q) = false from decide_eq_false fun h => h8 h.2.2.2.2.2.2.2.2.1]
    (repeat first | (refine And.intro ?_ ?_; first | exact rfl | ((exact fun h => absurd h (by first | decide | (rw [e0]; decide) | (rw [e1]; decide) | (rw [e2]; decide) | (rw [e3]; decide) | (rw [e4]; decide) | (rw [e5]; decide) | (rw [e6]; decide) | (rw [e7]; decide) | (rw [e8]; decide))); intro yy; clear yy) | (rotate_left; (exact fun h => absurd h (by first | decide | (rw [e0]; decide) | (rw [e1]; decide) | (rw [e2]; decide) | (rw [e3]; decide) | (rw [e4]; decide) | (rw [e5]; decide) | (rw [e6]; decide) | (rw [e7]; decide) | (rw [e8]; decide))); intro yy; clear yy) | decide | omega) | (with_reducible refine frc_bytesL (by first | omega | decide) ?_) | (with_reducible refine frc_bytesM (by first | omega | decide) ?_))
    refine ⟨.a (.c (.bool false)), _, ⟨[0, 1], ⟨rfl, rfl, rfl⟩, ?_⟩, rfl, rfl⟩
    (repeat first | exact trivial | refine ent1 ?_)
    refine eqC_bts (eqC_bts ?_)
    (repeat first | exact trivial | refine ent1 ?_)
  have e8 : decide (p.a8 = q.a8) = true := decide_eq_true h8
  (repeat first | (refine And.intro ?_ ?_; first | exact rfl | ((exact fun h => absurd h (by first | decide | (rw [e0]; decide) | (rw [e1]; decide) | (rw [e2]; decide) | (rw [e3]; decide) | (rw [e4]; decide) | (rw [e5]; decide) | (rw [e6]; decide) | (rw [e7]; decide) | (rw [e8]; decide))); intro yy; clear yy) | (rotate_left; (exact fun h => absurd h (by first | decide | (rw [e0]; decide) | (rw [e1]; decide) | (rw [e2]; decide) | (rw [e3]; decide) | (rw [e4]; decide) | (rw [e5]; decide) | (rw [e6]; decide) | (rw [e7]; decide) | (rw [e8]; decide))); intro yy; clear yy) | decide | omega) | (with_reducible refine frc_bytesL (by first | omega | decide) ?_) | (with_reducible refine frc_bytesM (by first | omega | decide) ?_))
  refine call_same (fn_equal p.s q.s hp hq) [0, 1] rfl (by (repeat first | exact trivial | refine ent1 ?_)) (by refine eqC_bts (eqC_bts ?_); (repeat first | exact trivial | refine ent1 ?_)) (fun _ _ => trivial) ?_
  rintro x hs' ⟨rfl, rfl⟩
  have hv : decide (sameP p q) = decide (p.s.l = q.s.l) := by unfold sameP; simp [h0, h1, h2, h3, h4, h5, h6, h7, h8]
  rw [hv]
  (repeat first | (refine And.intro ?_ ?_; first | exact rfl | ((exact fun h => absurd h (by first | decide | (rw [e0]; decide) | (rw [e1]; decide) | (rw [e2]; decide) | (rw [e3]; decide) | (rw [e4]; decide) | (rw [e5]; decide) | (rw [e6]; decide) | (rw [e7]; decide) | (rw [e8]; decide))); intro yy; clear yy) | (rotate_left; (exact fun h => absurd h (by first | decide | (rw [e0]; decide) | (rw [e1]; decide) | (rw [e2]; decide) | (rw [e3]; decide) | (rw [e4]; decide) | (rw [e5]; decide) | (rw [e6]; decide) | (rw [e7]; decide) | (rw [e8]; decide))); intro yy; clear yy) | decide | omega) | (with_reducible refine frc_bytesL (by first | omega | decide) ?_) | (with_reducible refine frc_bytesM (by first | omega | decide) ?_))
  refine ⟨.a (.c (.bool (decide (p.s.l = q.s.l)))), _, ⟨[0, 1], ⟨rfl, rfl, rfl⟩, ?_⟩, rfl, rfl⟩
  (repeat first | exact trivial | refine ent1 ?_)
  refine eqC_bts (eqC_bts ?_)
  (repeat first | exact trivial | refine ent1 ?_)
end Sx
end Go.Proofs.Ytkjdkeolkigibaa
end

section
/-
  What an endpoint says, as bytes by the document. No condition.
-/
namespace Go.Proofs.Ytkjdkeolkigibaa
set_option linter.unusedVariables false
namespace Vi
open Sha Sx
abbrev idL : List (BitVec 64) := [1#64, 4#64, 5#64, 6#64, 7#64, 8#64, 9#64, 11#64, 14#64]
/-- The first numbers, by their ids. -/
def cats : List (BitVec 64) → List (BitVec 64) → Nat → Bs
  | i :: l, n :: r, j + 1 => numL i n ++ cats l r j
  | _, _, _ => []
theorem cats_succ : ∀ {l r : List (BitVec 64)} {j : Nat} {i n : BitVec 64}, l[j]? = some i → r[j]? = some n → cats l r (j + 1) = cats l r j ++ numL i n
  | x :: l, y :: r, 0, i, n, h1, h2 => by
    simp at h1 h2
    subst h1; subst h2
    cases l <;> cases r <;> simp [cats]
  | x :: l, y :: r, j + 1, i, n, h1, h2 => by
    simp only [List.getElem?_cons_succ] at h1 h2
    rw [cats, cats_succ h1 h2, cats, List.append_assoc]
  | [], _, j, i, n, h1, _ => by simp at h1
  | _ :: _, [], j, i, n, _, h2 => by simp at h2
theorem cats_len : ∀ (l r : List (BitVec 64)) (j : Nat), (cats l r j).length ≤ 24 * j
  | i :: l, n :: r, j + 1 => by
    have := cats_len l r j
    have := numL_len i n
    simp only [cats, List.length_append]
    omega
  | [], _, _ => by simp [cats]
  | _ :: _, [], _ => by simp [cats]
  | _ :: _, _ :: _, 0 => by simp [cats]
theorem cats_put (p : Pm) : cats idL (nineL p) 9 ++ putAll [15#64] ++ longL p.s.l = putP p := by
  unfold putP
  simp only [cats, List.append_assoc, List.nil_append]
theorem id_ok : ∀ i ∈ idL, lenN i ≠ 0 := by
  intro i hi
  simp only [idL, List.mem_cons, List.not_mem_nil, or_false] at hi
  rcases hi with rfl | rfl | rfl | rfl | rfl | rfl | rfl | rfl | rfl <;> decide
theorem nine_ok {p : Pm} (hc : checkP p = 0) : ∀ i ∈ nineL p, lenN i ≠ 0 := by
  have hb := check_ok hc
  intro i hi
  simp only [nineL, List.mem_cons, List.not_mem_nil, or_false] at hi
  refine small_len (show i.toNat ≤ 1073741824 from ?_)
  rcases hi with rfl | rfl | rfl | rfl | rfl | rfl | rfl | rfl | rfl <;> omega
end Vi
namespace Sx
open Sha Vi
theorem mp_row {g : Nat → Nat} {l : Bs} (i : Nat) (hi : i < l.length) : SC.mp g (bytesF l.length (L l) i) = .w8 (L l i) := by rw [bytesF_lt hi]; rfl
set_option maxRecDepth 20000 in
set_option maxHeartbeats 8000000 in
theorem fn_qparams (p : Pm) (hp : p.s.Ok) (hc : checkP p = 0) : FnR Try.prog tds 26 1 [svB p.s] [.agg [.row 9 (numsF (nineL p))], .c (svC 0 p.s)] (fun _ => True)
    (fun y hs => ∃ c', (putP p).length ≤ c' ∧ y = .a (.c (.sl 1 0 0 (putP p).length c')) ∧ hs = [svB p.s, lsC (putP p) c']) := by
  refine fn_of_body tds_ok follows_ Try.func26 rfl (t := .a (.agg [.row 9 (numsF (nineL p))]) :: .a (.c (svC 0 p.s)) :: anys (Try.f26.ntmps - 2)) rfl (fun w r0 hr _ => ?_)
  obtain ⟨x0, rfl⟩ := List.length_eq_one_iff.1 hr
  have hs20 : p.s.l.length ≤ 20 := (check_ok hc).2.2.2.2.2
  (repeat first | (refine And.intro ?_ ?_; first | exact rfl | ((exact fun h => absurd h (by first | decide)); intro yy; clear yy) | (rotate_left; (exact fun h => absurd h (by first | decide)); intro yy; clear yy) | decide | omega) | (with_reducible refine frc_bytesL (by first | omega | decide) ?_) | (with_reducible refine frc_bytesM (by first | omega | decide) ?_))
  refine .inl ⟨Option (Nat × Nat × Bs), fun x => match x with
    | none => ⟨[.a (.agg [.row 9 (numsF (nineL p))]), .a (.c (svC 0 p.s)), .a (.c (.p 1 0 0)), .any, .any, .a (.c (.sl 2 0 0 9 9)), .a (.c (.slc none 0 0)), .a (.c (.int .i64 (0))), .any, .any, .any, .any, .any, .any, .any, .any, .any, .any, .any, .any, .any, .any, .any, .any, .any, .any, .any, .any, .any, .any, .any, .any], [svB p.s, [.row 9 (numsF (nineL p))], [.row 9 (numsF idL)]]⟩
    | some (j, c, B) => ⟨[.a (.agg [.row 9 (numsF (nineL p))]), .a (.c (svC 0 p.s)), .a (.c (.p 1 0 0)), .any, .any, .a (.c (.sl 2 0 0 9 9)), .a (.c (.sl 3 0 0 B.length c)), .a (.c (.int .i64 ((j : Nat)))), .any, .any, .any, .any, .any, .any, .any, .any, .any, .any, .any, .any, .any, .any, .any, .any, .any, .any, .any, .any, .any, .any, .any, .any], [svB p.s, [.row 9 (numsF (nineL p))], [.row 9 (numsF idL)], lsC B c]⟩,
    fun x => match x with
    | none => True
    | some (j, c, B) => 1 ≤ j ∧ j ≤ 9 ∧ B.length ≤ c ∧ B = cats idL (nineL p) j, fun x => match x with
    | none => 10
    | some (j, _, _) => 9 - j, ⟨none, [0, 1, 2], ⟨⟨rfl, rfl, rfl⟩, ?_⟩, trivial⟩, fun x => ?_⟩
  · (repeat first | exact trivial | refine ent1 ?_)
    refine ⟨fun j hj => eqC_numsS, ?_⟩
    (repeat first | exact trivial | refine ent1 ?_)
    refine eqC_bts ?_
    (repeat first | exact trivial | refine ent1 ?_)
    refine ⟨fun j hj => eqC_numsS, ?_⟩
    (repeat first | exact trivial | refine ent1 ?_)
    refine ⟨fun j hj => eqC_nums (numsN rfl) j, ?_⟩
    (repeat first | exact trivial | refine ent1 ?_)
  rcases x with _ | ⟨j, c, B⟩
  · intro _
    (repeat first | (refine And.intro ?_ ?_; first | exact rfl | ((exact fun h => absurd h (by first | decide)); intro yy; clear yy) | (rotate_left; (exact fun h => absurd h (by first | decide)); intro yy; clear yy) | decide | omega) | (with_reducible refine frc_bytesL (by first | omega | decide) ?_) | (with_reducible refine frc_bytesM (by first | omega | decide) ?_))
    refine call_same (fn_qput 1#64 (by decide)) [] rfl (by (repeat first | exact trivial | refine ent1 ?_)) trivial (fun _ _ => trivial) ?_
    rintro x hs' ⟨c1, hc1, rfl, rfl⟩
    have z1 : (putL 1#64).length = 1 := by decide
    have z0 : lenN 1#64 = 1 := by decide
    have zB : putL 1#64 ++ longL (putL p.a0) = cats idL (nineL p) 1 := by rw [← numL_eq]; simp [cats]
    generalize hP1 : putL 1#64 = P1 at hc1 z1 zB ⊢
    clear hP1
    refine ⟨by show 0 + (P1).length ≤ c1; omega, ⟨rfl, rfl⟩, by show (P1).length * 1 ≤ 140737488355328; omega, fun hm0 => absurd hm0 (by omega), fun hm0 c2 hc2 => ?_⟩
    (repeat first | (refine And.intro ?_ ?_; first | exact rfl | ((exact fun h => absurd h (by first | decide)); intro yy; clear yy) | (rotate_left; (exact fun h => absurd h (by first | decide)); intro yy; clear yy) | decide | omega) | (with_reducible refine frc_bytesL (by first | omega | decide) ?_) | (with_reducible refine frc_bytesM (by first | omega | decide) ?_))
    have l0 := nine_ok hc p.a0 (by simp [nineL])
    have u0 := putL_len p.a0
    have v0 := lenN_le p.a0
    refine call_same (fn_qput p.a0 l0) [] rfl (by (repeat first | exact trivial | refine ent1 ?_)) trivial (fun _ _ => trivial) ?_
    rintro x hs' ⟨c3, hc3, rfl, rfl⟩
    generalize hN1 : putL p.a0 = N1 at hc3 u0 zB ⊢
    clear hN1
    (repeat first | (refine And.intro ?_ ?_; first | exact rfl | ((exact fun h => absurd h (by first | decide)); intro yy; clear yy) | (rotate_left; (exact fun h => absurd h (by first | decide)); intro yy; clear yy) | decide | omega) | (with_reducible refine frc_bytesL (by first | omega | decide) ?_) | (with_reducible refine frc_bytesM (by first | omega | decide) ?_))
    refine call_same (fn_qlong ⟨false, c3, 0, c3, N1⟩ (own_ok (by omega) (by omega)) (P1) c2 (by omega) (by omega)) [5, 4] rfl (by (repeat first | exact trivial | refine ent1 ?_)) ?_ (fun _ _ => trivial) ?_
    · refine ⟨rfl, fun j hj => eqC_winBM (Nat.le_refl _), ?_⟩
      (repeat first | exact trivial | refine ent1 ?_)
      refine ⟨fun j hj => eqC_bytes (fun i hi => new_row (m := P1) (fun q hq => mp_row q hq) i hi) j, ?_⟩
      (repeat first | exact trivial | refine ent1 ?_)
    rintro x hs' ⟨c4, hc4, rfl, rfl⟩
    rw [show Sl.l ⟨false, c3, 0, c3, N1⟩ = N1 from rfl, zB] at hc4 ⊢
    generalize hB1 : cats idL (nineL p) 1 = B1 at hc4 ⊢
    (repeat first | (refine And.intro ?_ ?_; first | exact rfl | ((exact fun h => absurd h (by first | decide)); intro yy; clear yy) | (rotate_left; (exact fun h => absurd h (by first | decide)); intro yy; clear yy) | decide | omega) | (with_reducible refine frc_bytesL (by first | omega | decide) ?_) | (with_reducible refine frc_bytesM (by first | omega | decide) ?_))
    refine ⟨some (1, c4, B1), [0, 1, 2, 6], ⟨⟨rfl, rfl, rfl⟩, ?_⟩, ⟨Nat.le_refl _, by decide, hc4, hB1.symm⟩, by show 9 - 1 < 10; decide⟩
    (repeat first | exact trivial | refine ent1 ?_)
    refine ⟨fun j hj => eqC_numsS, ?_⟩
    (repeat first | exact trivial | refine ent1 ?_)
    refine eqC_bts ?_
    (repeat first | exact trivial | refine ent1 ?_)
    refine ⟨fun j hj => eqC_numsS, ?_⟩
    (repeat first | exact trivial | refine ent1 ?_)
    refine ⟨fun j hj => eqC_numsS, ?_⟩
    (repeat first | exact trivial | refine ent1 ?_)
  · rintro ⟨h1, h2, h3, hB⟩
    have hBl := cats_len idL (nineL p) j
    rw [← hB] at hBl
    by_cases h4 : j < 9
    · have e4 : decide ((j : Int) < 9) = true := decide_eq_true (by omega)
      obtain ⟨i, hi⟩ : ∃ i, idL[j]? = some i := ⟨idL[j], List.getElem?_eq_getElem h4⟩
      obtain ⟨n, hn⟩ : ∃ n, (nineL p)[j]? = some n := ⟨(nineL p)[j], List.getElem?_eq_getElem h4⟩
      have h5 := id_ok i (List.mem_of_getElem? hi)
      have h6 := nine_ok hc n (List.mem_of_getElem? hn)
      (repeat first | (refine And.intro ?_ ?_; first | exact rfl | ((exact fun h => absurd h (by first | decide | (rw [e4]; decide))); intro yy; clear yy) | (rotate_left; (exact fun h => absurd h (by first | decide | (rw [e4]; decide))); intro yy; clear yy) | decide | omega) | (with_reducible refine frc_bytesL (by first | omega | decide) ?_) | (with_reducible refine frc_bytesM (by first | omega | decide) ?_))
      have hi' : idL[((j : Nat) : Int).toNat + 0]? = some i := hi
      with_reducible refine frc_nums hi' ?_
      (repeat first | (refine And.intro ?_ ?_; first | exact rfl | ((exact fun h => absurd h (by first | decide | (rw [e4]; decide))); intro yy; clear yy) | (rotate_left; (exact fun h => absurd h (by first | decide | (rw [e4]; decide))); intro yy; clear yy) | decide | omega) | (with_reducible refine frc_bytesL (by first | omega | decide) ?_) | (with_reducible refine frc_bytesM (by first | omega | decide) ?_))
      refine call_same (fn_qput i h5) [] rfl (by (repeat first | exact trivial | refine ent1 ?_)) trivial (fun _ _ => trivial) ?_
      rintro x hs' ⟨c1, hc1, rfl, rfl⟩
      have w1 : (putL i).length = lenN i := putL_len i
      have w2 := lenN_le i
      have hB' : (B ++ putL i) ++ longL (putL n) = cats idL (nineL p) (j + 1) := by rw [List.append_assoc, ← numL_eq, cats_succ hi hn, ← hB]
      generalize hP1 : putL i = P1 at hc1 w1 hB' ⊢
      clear hP1
      refine ⟨by show 0 + (P1).length ≤ c1; omega, ?_⟩
      refine ⟨⟨h3, by show 0 + c ≤ c; omega, by show (B.length + (P1).length) * 1 ≤ 140737488355328; omega⟩, fun c2 hc2 => ?_⟩
      have hn' : (nineL p)[((j : Nat) : Int).toNat + 0]? = some n := hn
      (repeat first | (refine And.intro ?_ ?_; first | exact rfl | ((exact fun h => absurd h (by first | decide | (rw [e4]; decide))); intro yy; clear yy) | (rotate_left; (exact fun h => absurd h (by first | decide | (rw [e4]; decide))); intro yy; clear yy) | decide | omega) | (with_reducible refine frc_bytesL (by first | omega | decide) ?_) | (with_reducible refine frc_bytesM (by first | omega | decide) ?_))
      with_reducible refine frc_nums hn' ?_
      (repeat first | (refine And.intro ?_ ?_; first | exact rfl | ((exact fun h => absurd h (by first | decide | (rw [e4]; decide))); intro yy; clear yy) | (rotate_left; (exact fun h => absurd h (by first | decide | (rw [e4]; decide))); intro yy; clear yy) | decide | omega) | (with_reducible refine frc_bytesL (by first | omega | decide) ?_) | (with_reducible refine frc_bytesM (by first | omega | decide) ?_))
      have u0 := putL_len n
      have v0 := lenN_le n
      refine call_same (fn_qput n h6) [] rfl (by (repeat first | exact trivial | refine ent1 ?_)) trivial (fun _ _ => trivial) ?_
      rintro x hs' ⟨c3, hc3, rfl, rfl⟩
      generalize hN1 : putL n = N1 at hc3 u0 hB' ⊢
      clear hN1
      (repeat first | (refine And.intro ?_ ?_; first | exact rfl | ((exact fun h => absurd h (by first | decide | (rw [e4]; decide))); intro yy; clear yy) | (rotate_left; (exact fun h => absurd h (by first | decide | (rw [e4]; decide))); intro yy; clear yy) | decide | omega) | (with_reducible refine frc_bytesL (by first | omega | decide) ?_) | (with_reducible refine frc_bytesM (by first | omega | decide) ?_))
      have hD : (B ++ P1).length = B.length + (P1).length := List.length_append
      have rD : ∀ q, q < B.length + (P1).length → appF (bytesF B.length (L B)) 0 (scale B.length (0 + 1)) (scale (P1).length (0 + 1)) (fun q => (fun j => SC.mp (bk 4 []) (bytesF (P1).length (L (P1)) j)) (q + 0)) q = .w8 (L (B ++ P1) q) :=
        fun q hq => app_row rfl rfl (fun i hi => bytesF_lt hi) (fun q hq => mp_row q hq) q hq
      refine call_same (fn_qlong ⟨false, c3, 0, c3, N1⟩ (own_ok (by omega) (by omega)) (B ++ P1) c2 (by omega) (by omega)) [6, 5] rfl (by (repeat first | exact trivial | refine ent1 ?_)) ?_ (fun _ _ => trivial) ?_
      · refine ⟨rfl, fun j hj => eqC_winBM (Nat.le_refl _), ?_⟩
        (repeat first | exact trivial | refine ent1 ?_)
        refine ⟨fun j hj => eqC_bytes (fun i hi => rD i (by omega)) j, ?_⟩
        (repeat first | exact trivial | refine ent1 ?_)
      rintro x hs' ⟨c4, hc4, rfl, rfl⟩
      rw [show Sl.l ⟨false, c3, 0, c3, N1⟩ = N1 from rfl, hB'] at hc4 ⊢
      generalize hB1 : cats idL (nineL p) (j + 1) = B1 at hc4 ⊢
      (repeat first | (refine And.intro ?_ ?_; first | exact rfl | ((exact fun h => absurd h (by first | decide | (rw [e4]; decide))); intro yy; clear yy) | (rotate_left; (exact fun h => absurd h (by first | decide | (rw [e4]; decide))); intro yy; clear yy) | decide | omega) | (with_reducible refine frc_bytesL (by first | omega | decide) ?_) | (with_reducible refine frc_bytesM (by first | omega | decide) ?_))
      refine ⟨some (j + 1, c4, B1), [0, 1, 2, 7], ⟨⟨rfl, rfl, rfl⟩, ?_⟩, ⟨by omega, by omega, hc4, hB1.symm⟩, by dsimp only; omega⟩
      (repeat first | exact trivial | refine ent1 ?_)
      refine ⟨fun j hj => eqC_numsS, ?_⟩
      (repeat first | exact trivial | refine ent1 ?_)
      refine eqC_bts ?_
      (repeat first | exact trivial | refine ent1 ?_)
      refine ⟨fun j hj => eqC_numsS, ?_⟩
      (repeat first | exact trivial | refine ent1 ?_)
      refine ⟨fun j hj => eqC_numsS, ?_⟩
      (repeat first | exact trivial | refine ent1 ?_)
    · have e4 : decide ((j : Int) < 9) = false := decide_eq_false (by omega)
      have hj : j = 9 := by omega
      subst hj
      (repeat first | (refine And.intro ?_ ?_; first | exact rfl | ((exact fun h => absurd h (by first | decide | (rw [e4]; decide))); intro yy; clear yy) | (rotate_left; (exact fun h => absurd h (by first | decide | (rw [e4]; decide))); intro yy; clear yy) | decide | omega) | (with_reducible refine frc_bytesL (by first | omega | decide) ?_) | (with_reducible refine frc_bytesM (by first | omega | decide) ?_))
      refine ⟨⟨h3, by show 0 + c ≤ c; omega, by show (B.length + 1) * 1 ≤ 140737488355328; omega⟩, fun c2 hc2 => ?_⟩
      (repeat first | (refine And.intro ?_ ?_; first | exact rfl | ((exact fun h => absurd h (by first | decide | (rw [e4]; decide))); intro yy; clear yy) | (rotate_left; (exact fun h => absurd h (by first | decide | (rw [e4]; decide))); intro yy; clear yy) | decide | omega) | (with_reducible refine frc_bytesL (by first | omega | decide) ?_) | (with_reducible refine frc_bytesM (by first | omega | decide) ?_))
      have hD : (B ++ putAll [15#64]).length = B.length + 1 := by rw [List.length_append, one_15]
      have rD : ∀ q, q < B.length + 1 → appF (bytesF B.length (L B)) 0 (scale B.length (0 + 1)) (scale 1 (0 + 1)) (fun q => nthC [SC.w8 15#8] (q + 0)) q = .w8 (L (B ++ [15#8]) q) :=
        fun q hq => app_row rfl rfl (fun i hi => bytesF_lt hi) (fun q hq => one_row rfl q hq) q hq
      refine call_same (fn_qlong p.s hp (B ++ putAll [15#64]) c2 (by omega) (by omega)) [0, 5] rfl (by (repeat first | exact trivial | refine ent1 ?_)) ?_ (fun _ _ => trivial) ?_
      · refine eqC_bts ?_
        (repeat first | exact trivial | refine ent1 ?_)
        refine ⟨fun j hj => eqC_bytes (fun i hi => rD i (by omega)) j, ?_⟩
        (repeat first | exact trivial | refine ent1 ?_)
      rintro x hs' ⟨c4, hc4, rfl, rfl⟩
      rw [hB, cats_put] at hc4 ⊢
      generalize putP p = PP at hc4 ⊢
      (repeat first | (refine And.intro ?_ ?_; first | exact rfl | ((exact fun h => absurd h (by first | decide | (rw [e4]; decide))); intro yy; clear yy) | (rotate_left; (exact fun h => absurd h (by first | decide | (rw [e4]; decide))); intro yy; clear yy) | decide | omega) | (with_reducible refine frc_bytesL (by first | omega | decide) ?_) | (with_reducible refine frc_bytesM (by first | omega | decide) ?_))
      refine ⟨.a (.c (.sl 1 0 0 PP.length c4)), _, ⟨[0, 6], ⟨rfl, rfl, rfl⟩, ?_⟩, c4, hc4, rfl, rfl⟩
      (repeat first | exact trivial | refine ent1 ?_)
      refine eqC_bts ?_
      (repeat first | exact trivial | refine ent1 ?_)
end Sx
end Go.Proofs.Ytkjdkeolkigibaa
end

section
/-
  From a function over blocks to a law's walk: arguments opened. Over any program. No condition of its own.
-/
namespace Go.Proofs.Ytkjdkeolkigibaa
set_option linter.unusedVariables false
namespace Sx
open Go.RowKit Go.ChangeShapes Go.WideShapes

section
variable {H : Type} {enc : TypeId × Value → H} {P : Program} {w : World} {base : Nat} {sp : Nat → Bool} {held : Bool}
theorem wf_w8 {a : Int} (h : (Lit.int .u8 a).wf = true) : a = ((BitVec.ofInt 8 a).toNat : Int) := by
  have := bounds_u8 h
  rw [BitVec.toNat_ofInt]
  omega
end
theorem isAs_nil (r : Rho) : IsAs r [] [] := ⟨rfl, fun j x e => by simp at e⟩
theorem isAs_cons {r : Rho} {x : SA} {v : Value} {l : List SA} {vs : List Value} (h : SA.Is r x v) (hs : IsAs r l vs) : IsAs r (x :: l) (v :: vs) :=
  ⟨by simpa using hs.1, fun j y e => by
    cases j with
    | zero => simp at e; subst e; exact ⟨v, rfl, h⟩
    | succ j => exact hs.2 j y e⟩
/-- A law's walk. -/
theorem Fn.law {P : Program} {T : List (Nat × TD)} {f : FuncId} {args : List SA} {raw : World → Prop} (h : Fn P T f [] args raw (fun x hs => x = .a (.c (.bool true)) ∧ hs = [])) {w : World} {vs : List Value} (ha : IsAs [] args vs) (hr : raw w) :
    Calls P f vs.toArray w fun e w' => e = .returned (.bool true) ∧ Below w.heap.size w w' := by
  refine (Fn.calls h ha hr).mono ?_
  rintro e w' ⟨v, x, hs, r', rfl, hx, hok, rfl, rfl⟩
  obtain rfl : v = .bool true := hx
  exact ⟨rfl, hok.ext.below0⟩
end Sx
end Go.Proofs.Ytkjdkeolkigibaa
end

section
/-
  From a function over blocks that are only read to a law's walk: slices of bytes that came in. Over any program. No condition of its own.
-/
namespace Go.Proofs.Ytkjdkeolkigibaa
set_option linter.unusedVariables false
namespace Sx
open Go.RowKit Go.ChangeShapes Go.WideShapes Sha

theorem okWide_spot {P : Program} {w : World} {r : Reach} {b0 : Nat} {t e : TypeId} {a : Option Addr} {n c : Nat} (ht : P.underlying t = some (.slice e)) (h : Value.okWide P w r b0 t (.slice a n c)) : ∀ x, a = some x → x.spot = none := by
  rintro x rfl
  simp only [Value.okWide, ht, Cell.okWide, Cell.ok] at h
  exact h.2.2.2.1
/-- A slice of bytes that came in: nil (z) or not, its bytes, where they lie. -/
structure InB (w : World) (a : Option Addr) (n c : Nat) (z : Bool) (l : Bs) (B f : Nat) : Prop where
  len : l.length = n
  le : n ≤ c
  cap : c ≤ maxLen
  nil : z = true → l = []
  val : ∀ (r : Rho) (i : Nat), r[i]? = some (B, f) → SC.Is r (.sn z i 0 0 n c) (.slice a n c)
  at_ : ∀ r : Rho, At false r w B f (flat (bts z n 0 n (L l)))
theorem open_b8 {w : World} {a : Option Addr} {len cap : Nat} {zs : List Int} (h : IsRow .u8 w a len cap zs) (hs : ∀ x, a = some x → x.spot = none) : ∃ z l B f, InB w a len cap z l B f := by
  rcases h with ⟨rfl, rfl, rfl, rfl⟩ | ⟨x, rfl, hl, hm, hz, hc, hw⟩
  · exact ⟨true, [], 0, 0, rfl, Nat.le_refl _, by unfold maxLen; omega, fun _ => rfl, fun r i _ => .inl ⟨rfl, rfl, rfl, rfl⟩, fun r j y e => by simp [bts, flat] at e⟩
  · obtain ⟨B, f, spot⟩ := x
    obtain rfl : spot = none := hs _ rfl
    refine ⟨false, (zs.take len).map (BitVec.ofInt 8), B, f, by simp; omega, hl, hm, fun h => Bool.noConfusion h, fun r i hr => .inr (.inl ⟨rfl, B, f, hr, rfl⟩), fun r j y e => ?_⟩
    have hj : j < len := by
      rcases Nat.lt_or_ge j len with h | h
      · exact h
      · rw [List.getElem?_eq_none (by simpa [bts, flat] using h)] at e; cases e
    have e2 : y = .w8 (L ((zs.take len).map (BitVec.ofInt 8)) j) := by
      simp only [bts, flat, List.append_nil, List.getElem?_map, Option.map_eq_some_iff] at e
      obtain ⟨i, hi, rfl⟩ := e
      rw [List.getElem?_range (by omega)] at hi
      injection hi with hi
      subst hi
      have := winF_at 0 len (L ((zs.take len).map (BitVec.ofInt 8))) hj
      rwa [Nat.zero_add] at this
    subst e2
    have hc1 := hc j (by omega)
    have ha : (⟨B, f, none⟩ : Addr).add j = ⟨B, f + j, none⟩ := by unfold Addr.add; simp
    rw [ha] at hc1
    refine ⟨_, hc1, ?_, fun h => Bool.noConfusion h⟩
    show Value.int .u8 _ = Value.int .u8 _
    congr 1
    have hjz : j < zs.length := by omega
    have h3 : zs.getD j 0 = zs[j] := by rw [List.getD_eq_getElem?_getD, List.getElem?_eq_getElem hjz]; rfl
    have h4 : L ((zs.take len).map (BitVec.ofInt 8)) j = BitVec.ofInt 8 zs[j] := by
      rw [L_lt (by simp; omega)]
      simp
    rw [h3, h4]
    exact wf_w8 (hw _ (List.getElem_mem _))
/-- The blocks lie where r says. -/
def AllAt (R : Rho) (w : World) : List (List Seg) → Rho → Prop
  | [], [] => True
  | ch :: h, (B, f) :: r => At false R w B f (flat ch) ∧ AllAt R w h r
  | _, _ => False
theorem AllAt.len {R : Rho} {w : World} : ∀ {h : List (List Seg)} {r : Rho}, AllAt R w h r → r.length = h.length
  | [], [], _ => rfl
  | _ :: h, _ :: r, k => by rw [List.length_cons, List.length_cons, AllAt.len k.2]
  | [], _ :: _, k => k.elim
  | _ :: _, [], k => k.elim
theorem AllAt.get {R : Rho} {w : World} : ∀ {h : List (List Seg)} {r : Rho}, AllAt R w h r → ∀ (i : Nat) (ch : List Seg) (B f : Nat), h[i]? = some ch → r[i]? = some (B, f) → At false R w B f (flat ch)
  | [], [], _, i, _, _, _, e, _ => by simp at e
  | c :: h, (B', f') :: r, k, 0, _, _, _, e1, e2 => by
    simp at e1 e2
    obtain ⟨rfl, rfl⟩ := e2
    subst e1
    exact k.1
  | c :: h, (B', f') :: r, k, i + 1, _, _, _, e1, e2 => k.2.get i _ _ _ (by simpa using e1) (by simpa using e2)
theorem heapOk_ro {P : Program} {T : List (Nat × TD)} {w : World} {r0 : Rho} {h0 : List (List Seg)} (hat : AllAt r0 w h0 r0) (hp : ∀ (i : Nat) (W : World) (ms : List Nat), h0[i]? = some [.past W ms] → W = w) : HeapOk (cx0 P T w r0 h0.length h0) h0 r0 w := by
  have hlen := hat.len
  have hget : ∀ i, h0[i]? = some (getH h0 i) ∨ h0[i]? = none := fun i => by
    rcases Nat.lt_or_ge i h0.length with h | h
    · exact .inl (by rw [List.getElem?_eq_getElem h]; have := getH_eq h0 i; rw [List.getElem?_eq_getElem h] at this; simpa using this.symm)
    · exact .inr (List.getElem?_eq_none h)
  have out : ∀ (i : Nat) (x : Nat × Nat), h0.length ≤ i → r0[i]? = some x → False := fun i x hi e => by
    rw [List.getElem?_eq_none (by omega)] at e; cases e
  refine ⟨Ext.refl _ _, RLe.refl _, Nat.le_of_eq hlen.symm, hlen, fun i ch B f hi hr => ?_, fun i B f ho hr => (out i _ ho hr).elim, fun i B f ho hr => (out i _ ho hr).elim, fun i B f ho hl hr => ?_, fun i ch ho hl hi => ?_, fun i j B f f' ch ch' hij o1 o2 h1 h2 r1 r2 => (out i _ o1 r1).elim, fun i m B f ho _ hr => (out i _ ho hr).elim, fun i W ms hi => ?_⟩
  · have hil : i < h0.length := (List.getElem?_eq_some_iff.1 hi).1
    have : Nat.ble h0.length i = false := by
      cases e : Nat.ble h0.length i
      · rfl
      · have := ble_le e; omega
    show At (Nat.ble h0.length i) _ _ _ _ _
    rw [this]
    exact hat.get i ch B f hi hr
  · refine ⟨?_, ?_⟩
    · show B ∉ (r0.drop h0.length).map (·.1)
      rw [List.drop_eq_nil_of_le (by omega)]
      simp
    · rcases hget i with e | e
      · exact (hat.get i _ B f e hr).lt hl
      · rw [List.getElem?_eq_none_iff] at e
        exact (out i _ e hr).elim
  · have hl : ¬ flat (getH h0 i) ≠ [] := hl
    rcases hget i with e | e
    · rw [hi] at e
      injection e with e
      rw [e]
      exact Classical.not_not.1 hl
    · rw [hi] at e; cases e
  · obtain rfl := hp i W ms hi
    exact ⟨Ext.refl _ _, fun B _ h2 h3 => ⟨i, _, ms, hi, h2, h3⟩, fun j B f ho hr => (out j _ ho hr).elim⟩
def NoPast : List (List Seg) → Prop
  | [] => True
  | l :: r => (∀ W ms, l ≠ [.past W ms]) ∧ NoPast r
theorem NoPast.get {w : World} : ∀ {h : List (List Seg)}, NoPast h → ∀ (i : Nat) (W : World) (ms : List Nat), h[i]? = some [.past W ms] → W = w
  | [], _, i, _, _, e => by simp at e
  | l :: h, k, 0, W, ms, e => by simp at e; exact absurd e (k.1 W ms)
  | l :: h, k, i + 1, W, ms, e => NoPast.get k.2 i W ms (by simpa using e)
theorem bts_np (z : Bool) (N o n : Nat) (b : Nat → BitVec 8) (W : World) (ms : List Nat) : bts z N o n b ≠ [.past W ms] := by
  cases z <;> (intro e; simp [bts] at e)
/-- A law's walk: what came in is only read. -/
theorem FnR.law {P : Program} {T : List (Nat × TD)} {f : FuncId} {n : Nat} {h0 : List (List Seg)} {args : List SA} {raw : World → Prop} {w : World} {vs : List Value} {r0 : Rho} (h : FnR P T f n h0 args raw (fun x _ => x = .a (.c (.bool true)))) (hn : n = h0.length)
    (hat : AllAt r0 w h0 r0) (ha : IsAs r0 args vs) (hr : raw w) (hp : NoPast h0 := by (repeat' first | exact trivial | refine And.intro ?_ ?_ | exact Go.Proofs.Ytkjdkeolkigibaa.Sx.bts_np _ _ _ _ _ | (intro W ms e; cases e))) :
    Calls P f vs.toArray w fun e w' => e = .returned (.bool true) ∧ Below w.heap.size w w' := by
  subst hn
  refine (h w r0 vs (heapOk_ro hat hp.get) ha hr).mono ?_
  rintro e w' ⟨v, x, hs, r', rfl, hx, hok, rfl⟩
  obtain rfl : v = .bool true := hx
  refine ⟨rfl, ?_⟩
  have e : Ext ((r0.drop h0.length).map (·.1)) w w' := hok.ext
  rw [List.drop_eq_nil_of_le (by rw [hat.len]; exact Nat.le_refl _)] at e
  exact e.below0
end Sx
end Go.Proofs.Ytkjdkeolkigibaa
end

section
/-
  From a function over blocks to a law's walk: structs with slices of bytes that came in. Over any program. No condition of its own.
-/
namespace Go.Proofs.Ytkjdkeolkigibaa
set_option linter.unusedVariables false
namespace Sx
open Go.RowKit Go.ChangeShapes Go.WideShapes Sha Vi

theorem cell_spot {P : Program} {w : World} {r : Reach} {b0 : Nat} {u : TypeId} {x : Addr} {n c : Nat} (hk : Cell.okWide P w r b0 u (.slice (some x) n c)) : x.spot = none := by
  cases hu : P.underlying u with
  | none => simp only [Cell.okWide, Cell.ok, hu] at hk
  | some d =>
    cases d <;> simp only [Cell.okWide, Cell.ok, hu] at hk
    exact hk.2.2.2.1
theorem okWide_cells {P : Program} {w : World} {r : Reach} {b0 : Nat} {t : TypeId} {fs : Array Field} {cs : Array Value} (ht : P.underlying t = some (.struct fs)) (h : Value.okWide P w r b0 t (.agg cs)) {i : Nat} {a : Option Addr} {n c : Nat} (hc : cs[i]? = some (.slice a n c)) : ∀ x, a = some x → x.spot = none := by
  rintro x rfl
  simp only [Value.okWide, ht] at h
  obtain ⟨cs', e, _, ts, _, _, hcell⟩ := h
  injection e with e
  subst e
  obtain ⟨u, _, hk⟩ := hcell i _ hc
  exact cell_spot hk
theorem isL_nil (r : Rho) : IsL r [] [] := ⟨rfl, fun j x e => by simp at e⟩
theorem isL_cons {r : Rho} {x : SC} {v : Value} {l : List SC} {vs : List Value} (h : x.Is r v) (hs : IsL r l vs) : IsL r (x :: l) (v :: vs) :=
  ⟨by simpa using hs.1, fun j y e => by
    cases j with
    | zero => simp at e; subst e; exact ⟨v, rfl, h⟩
    | succ j => exact hs.2 j y e⟩
/-- What slices of bytes keep to, however long. -/
structure Sl.Fit (s : Sl) : Prop where
  fit : s.o + s.l.length ≤ s.N
  cap : s.l.length ≤ s.c
  nil : s.z = true → s.l = []
theorem Sl.Fit.ok {s : Sl} (h : s.Fit) (hs : s.l.length ≤ 1000000) : s.Ok := ⟨h.fit, h.cap, h.nil, hs⟩
/-- A slice that came in. -/
abbrev slI (z : Bool) (c : Nat) (l : Bs) : Sl := ⟨z, l.length, 0, c, l⟩
theorem InB.fit {w : World} {a : Option Addr} {n c : Nat} {z : Bool} {l : Bs} {B f : Nat} (h : InB w a n c z l B f) : (slI z c l).Fit :=
  ⟨by simp, by have := h.len; have := h.le; show l.length ≤ c; omega, h.nil⟩
theorem InB.val' {w : World} {a : Option Addr} {n c : Nat} {z : Bool} {l : Bs} {B f : Nat} (h : InB w a n c z l B f) {r : Rho} {i : Nat} (hr : r[i]? = some (B, f)) : (svC i (slI z c l)).Is r (.slice a n c) := by
  have := h.val r i hr
  rw [← h.len] at this ⊢
  exact this
theorem InB.at' {w : World} {a : Option Addr} {n c : Nat} {z : Bool} {l : Bs} {B f : Nat} (h : InB w a n c z l B f) (r : Rho) : At false r w B f (flat (svB (slI z c l))) := by
  have := h.at_ r
  rw [← h.len] at this
  exact this
end Sx
end Go.Proofs.Ytkjdkeolkigibaa
end

section
/-
  The fixed fact about what an endpoint says; any params, put and taken. No condition.
-/
namespace Go.Proofs.Ytkjdkeolkigibaa
set_option linter.unusedVariables false
namespace Sx
open Sha Vi

end Sx
end Go.Proofs.Ytkjdkeolkigibaa
end

section
/-
  Messages of a handshake: which kinds there are; their arrays put into a writer. No condition.
-/
namespace Go.Proofs.Ytkjdkeolkigibaa
set_option linter.unusedVariables false
namespace Sx
open Sha Vi

/-- An array of 32 bytes. -/
abbrev ar (l : Bs) : Seg := .row 32 fun i => .w8 (L l i)
/-- A message: its kind, what was drawn, what is said, its mark. -/
structure Ms where
  k : BitVec 8
  r : Bs
  p : Pm
  m : Bs
structure Ms.Ok (x : Ms) : Prop where
  r : x.r.length = 32
  p : x.p.s.Ok
  m : x.m.length = 32
abbrev msC (i : Nat) (x : Ms) : List Seg := [.one (.w8 x.k), ar x.r, .one (.w64 x.p.a0), .one (.w64 x.p.a1), .one (.w64 x.p.a2), .one (.w64 x.p.a3), .one (.w64 x.p.a4), .one (.w64 x.p.a5), .one (.w64 x.p.a6), .one (.w64 x.p.a7), .one (.w64 x.p.a8), .one (svC i x.p.s), ar x.m]
def knownK (k : BitVec 8) : Bool := decide (k = 1#8) || decide (k = 2#8) || decide (k = 20#8)
set_option maxRecDepth 20000 in
theorem fn_known (k : BitVec 8) : Fn Try.prog tds 70 [] [.c (.w8 k)] (fun _ => True) (fun x hs => x = .a (.c (.bool (knownK k))) ∧ hs = []) := by
  refine fn_of_body tds_ok follows_ Try.func70 rfl (t := .a (.c (.w8 k)) :: anys (Try.f70.ntmps - 1)) rfl (fun w r0 hr _ => ?_)
  obtain rfl := List.eq_nil_of_length_eq_zero hr
  by_cases h1 : k = 1#8
  · have e1 : decide (k = 1#8) = true := decide_eq_true h1
    (repeat first | (refine And.intro ?_ ?_; first | exact rfl | ((exact fun h => absurd h (by first | decide | (rw [e1]; decide))); intro yy; clear yy) | (rotate_left; (exact fun h => absurd h (by first | decide | (rw [e1]; decide))); intro yy; clear yy) | decide | omega) | (with_reducible refine frc_bytesL (by first | omega | decide) ?_) | (with_reducible refine frc_bytesM (by first | omega | decide) ?_))
    refine ⟨.a (.c (.bool true)), _, ⟨[], ⟨rfl, rfl, rfl⟩, ?_⟩, by unfold knownK; rw [e1]; rfl, rfl⟩
    (repeat first | exact trivial | refine ent1 ?_)
  have e1 : decide (k = 1#8) = false := decide_eq_false h1
  by_cases h2 : k = 2#8
  · have e2 : decide (k = 2#8) = true := decide_eq_true h2
    (repeat first | (refine And.intro ?_ ?_; first | exact rfl | ((exact fun h => absurd h (by first | decide | (rw [e1]; decide) | (rw [e2]; decide))); intro yy; clear yy) | (rotate_left; (exact fun h => absurd h (by first | decide | (rw [e1]; decide) | (rw [e2]; decide))); intro yy; clear yy) | decide | omega) | (with_reducible refine frc_bytesL (by first | omega | decide) ?_) | (with_reducible refine frc_bytesM (by first | omega | decide) ?_))
    refine ⟨.a (.c (.bool true)), _, ⟨[], ⟨rfl, rfl, rfl⟩, ?_⟩, by unfold knownK; rw [e1, e2]; rfl, rfl⟩
    (repeat first | exact trivial | refine ent1 ?_)
  have e2 : decide (k = 2#8) = false := decide_eq_false h2
  (repeat first | (refine And.intro ?_ ?_; first | exact rfl | ((exact fun h => absurd h (by first | decide | (rw [e1]; decide) | (rw [e2]; decide))); intro yy; clear yy) | (rotate_left; (exact fun h => absurd h (by first | decide | (rw [e1]; decide) | (rw [e2]; decide))); intro yy; clear yy) | decide | omega) | (with_reducible refine frc_bytesL (by first | omega | decide) ?_) | (with_reducible refine frc_bytesM (by first | omega | decide) ?_))
  refine ⟨.a (.c (.bool (decide (k = 20#8)))), _, ⟨[], ⟨rfl, rfl, rfl⟩, ?_⟩, by unfold knownK; rw [e1, e2]; rfl, rfl⟩
  (repeat first | exact trivial | refine ent1 ?_)
set_option maxRecDepth 20000 in
theorem fn_wbytesR (x : Ms) (hx : x.Ok) : FnR Try.prog tds 49 2 [msC 1 x, svB x.p.s, wrN] [.c (.p 2 0 0), .c (.sl 0 1 0 32 32)] (fun _ => True)
    (fun y hs => ∃ c, 32 ≤ c ∧ y = .tup [] ∧ hs = [msC 1 x, svB x.p.s, wrC 3 x.r c, lsC x.r c]) := by
  refine fn_of_body tds_ok follows_ Try.func49 rfl (t := .a (.c (.p 2 0 0)) :: .a (.c (.sl 0 1 0 32 32)) :: anys (Try.f49.ntmps - 2)) rfl (fun w r0 hr0 _ => ?_)
  obtain ⟨x0, x1, x2, rfl⟩ := len3' hr0
  have hr := hx.r
  (repeat first | (refine And.intro ?_ ?_; first | exact rfl | ((exact fun h => absurd h (by first | decide)); intro yy; clear yy) | (rotate_left; (exact fun h => absurd h (by first | decide)); intro yy; clear yy) | decide | omega) | (with_reducible refine frc_bytesL (by first | omega | decide) ?_) | (with_reducible refine frc_bytesM (by first | omega | decide) ?_))
  intro c' hc'
  (repeat first | (refine And.intro ?_ ?_; first | exact rfl | ((exact fun h => absurd h (by first | decide)); intro yy; clear yy) | (rotate_left; (exact fun h => absurd h (by first | decide)); intro yy; clear yy) | decide | omega) | (with_reducible refine frc_bytesL (by first | omega | decide) ?_) | (with_reducible refine frc_bytesM (by first | omega | decide) ?_))
  refine ⟨.tup [], _, ⟨[0, 1, 2, 3], ⟨rfl, rfl, rfl⟩, ?_⟩, c', hc', rfl, rfl⟩
  (repeat first | exact trivial | refine ent1 ?_)
  refine eqC_bts ?_
  refine ⟨rfl, hr.symm, rfl, ?_⟩
  (repeat first | exact trivial | refine ent1 ?_)
  refine ⟨fun j hj => eqC_bytes (fun i hi => new_row (m := x.r) (fun q hq => rfl) i (by rw [hr] at hi; exact hi)) j, ?_⟩
  (repeat first | exact trivial | refine ent1 ?_)
set_option maxRecDepth 20000 in
theorem fn_wbytesM0 (x : Ms) (hx : x.Ok) : FnR Try.prog tds 49 2 [msC 1 x, svB x.p.s, wrN] [.c (.p 2 0 0), .c (.sl 0 43 0 32 32)] (fun _ => True)
    (fun y hs => ∃ c, 32 ≤ c ∧ y = .tup [] ∧ hs = [msC 1 x, svB x.p.s, wrC 3 x.m c, lsC x.m c]) := by
  refine fn_of_body tds_ok follows_ Try.func49 rfl (t := .a (.c (.p 2 0 0)) :: .a (.c (.sl 0 43 0 32 32)) :: anys (Try.f49.ntmps - 2)) rfl (fun w r0 hr0 _ => ?_)
  obtain ⟨x0, x1, x2, rfl⟩ := len3' hr0
  have hr := hx.m
  (repeat first | (refine And.intro ?_ ?_; first | exact rfl | ((exact fun h => absurd h (by first | decide)); intro yy; clear yy) | (rotate_left; (exact fun h => absurd h (by first | decide)); intro yy; clear yy) | decide | omega) | (with_reducible refine frc_bytesL (by first | omega | decide) ?_) | (with_reducible refine frc_bytesM (by first | omega | decide) ?_))
  intro c' hc'
  (repeat first | (refine And.intro ?_ ?_; first | exact rfl | ((exact fun h => absurd h (by first | decide)); intro yy; clear yy) | (rotate_left; (exact fun h => absurd h (by first | decide)); intro yy; clear yy) | decide | omega) | (with_reducible refine frc_bytesL (by first | omega | decide) ?_) | (with_reducible refine frc_bytesM (by first | omega | decide) ?_))
  refine ⟨.tup [], _, ⟨[0, 1, 2, 3], ⟨rfl, rfl, rfl⟩, ?_⟩, c', hc', rfl, rfl⟩
  (repeat first | exact trivial | refine ent1 ?_)
  refine eqC_bts ?_
  refine ⟨rfl, hr.symm, rfl, ?_⟩
  (repeat first | exact trivial | refine ent1 ?_)
  refine ⟨fun j hj => eqC_bytes (fun i hi => new_row (m := x.m) (fun q hq => rfl) i (by rw [hr] at hi; exact hi)) j, ?_⟩
  (repeat first | exact trivial | refine ent1 ?_)
set_option maxRecDepth 20000 in
theorem fn_wbytesM (x : Ms) (hx : x.Ok) (b : Bs) (c : Nat) (hb : b.length ≤ 1000000) (hc : b.length ≤ c) : FnR Try.prog tds 49 2 [msC 1 x, svB x.p.s, wrC 3 b c, lsC b c] [.c (.p 2 0 0), .c (.sl 0 43 0 32 32)] (fun _ => True)
    (fun y hs => ∃ c', (b ++ x.m).length ≤ c' ∧ y = .tup [] ∧ hs = [msC 1 x, svB x.p.s, wrC 4 (b ++ x.m) c', [], lsC (b ++ x.m) c']) := by
  refine fn_of_body tds_ok follows_ Try.func49 rfl (t := .a (.c (.p 2 0 0)) :: .a (.c (.sl 0 43 0 32 32)) :: anys (Try.f49.ntmps - 2)) rfl (fun w r0 hr0 _ => ?_)
  obtain ⟨x0, x1, x2, x3, rfl⟩ := len4' hr0
  have hr := hx.m
  (repeat first | (refine And.intro ?_ ?_; first | exact rfl | ((exact fun h => absurd h (by first | decide)); intro yy; clear yy) | (rotate_left; (exact fun h => absurd h (by first | decide)); intro yy; clear yy) | decide | omega) | (with_reducible refine frc_bytesL (by first | omega | decide) ?_) | (with_reducible refine frc_bytesM (by first | omega | decide) ?_))
  refine ⟨⟨hc, by show 0 + c ≤ c; omega, by show (b.length + 32) * 1 ≤ 140737488355328; omega⟩, fun c' hc' => ?_⟩
  (repeat first | (refine And.intro ?_ ?_; first | exact rfl | ((exact fun h => absurd h (by first | decide)); intro yy; clear yy) | (rotate_left; (exact fun h => absurd h (by first | decide)); intro yy; clear yy) | decide | omega) | (with_reducible refine frc_bytesL (by first | omega | decide) ?_) | (with_reducible refine frc_bytesM (by first | omega | decide) ?_))
  refine ⟨.tup [], _, ⟨[0, 1, 2, 3, 4], ⟨rfl, rfl, rfl⟩, ?_⟩, c', by rw [List.length_append, hr]; exact hc', rfl, rfl⟩
  (repeat first | exact trivial | refine ent1 ?_)
  refine eqC_bts ?_
  refine ⟨rfl, by rw [List.length_append, hr], rfl, ?_⟩
  (repeat first | exact trivial | refine ent1 ?_)
  refine ⟨fun j hj => eqC_bytes (fun i hi => app_row (l := b) (m := x.m) rfl hr (fun i hi => bytesF_lt hi) (fun q hq => rfl) i (by rw [List.length_append, hr] at hi; exact hi)) j, ?_⟩
  (repeat first | exact trivial | refine ent1 ?_)
end Sx
end Go.Proofs.Ytkjdkeolkigibaa
end
