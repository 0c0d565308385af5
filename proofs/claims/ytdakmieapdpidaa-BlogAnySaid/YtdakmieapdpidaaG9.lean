/-
  Texts of this claim, part 9: EoP, EoQ, EoR, EoS, VrA, EoT, EoU, EoV, EoW, EoX, EoY, Sxw, Sxw2, Sxv, Sxs, EoZ, EpA, EpB. No condition of its own.
-/
import Derived.OpenShut
import Derived.ChangeArms
import Derived.Test.YtdakmieapdpidaaG8
section
/-
  Numbers with the fewest bytes, both ways. No condition.
-/
namespace Go.Proofs.Ytdakmieapdpidaa
set_option linter.unusedVariables false
namespace Vi
open Sha
theorem nx_putE {n : BitVec 64} (h0 : lenN n ≠ 0) (r : Bs) : nextM (putL n ++ r) 0 = ((n, lenN n, true), r, 0) := by
  have hk := lenN_ok h0
  obtain ⟨h1, h2⟩ := take_wide hk h0 (Nat.le_refl _) r
  have hl : (putL n).length = lenN n := wideL_len _ _
  have hpos : 0 < lenN n := by omega
  have ht : takeM (putL n ++ r) = (n, lenN n, 0) := by
    unfold takeM
    rw [if_neg (by rw [show sizeT (L (putL n ++ r) 0) = lenN n from h1, List.length_append]; omega)]
    rw [show sizeT (L (putL n ++ r) 0) = lenN n from h1, show numT (putL n ++ r) (lenN n - 1) = n from h2]
  unfold nextM
  rw [if_neg (by decide), ht]
  show (if (0 : Int) ≠ 0 then _ else ((n, lenN n, true), (putL n ++ r).drop (lenN n), 0)) = _
  rw [if_neg (by decide), ← hl, List.drop_left]
theorem least_put {n : BitVec 64} (h0 : lenN n ≠ 0) (r : Bs) : leastM (putL n ++ r) 0 = (n, r, 0) := by
  unfold leastM; rw [nx_putE h0]
  show (if true = false then _ else if lenN n ≠ lenN n then _ else _) = _
  rw [if_neg (by decide), if_neg (fun h => h rfl)]
theorem and63_lt : ∀ c : BitVec 8, (c &&& 63#8).toNat < 64 := by decide +kernel
theorem mark_back : ∀ c : BitVec 8, (c &&& 63#8) ||| markB (sizeT c) = c := by decide +kernel
theorem numT_lt (l : Bs) : ∀ i : Nat, i ≤ 7 → (numT l i).toNat < 64 * 256 ^ i
  | 0, _ => by
    have := and63_lt (L l 0)
    show (BitVec.setWidth 64 (L l 0 &&& 63#8)).toNat < 64 * 256 ^ 0
    rw [BitVec.toNat_setWidth]
    omega
  | i + 1, h => by
    have ih := numT_lt l i (by omega)
    have hp : 256 ^ i ≤ 256 ^ 6 := Nat.pow_le_pow_right (by decide) (by omega)
    have hlt : (numT l i).toNat < 2 ^ 56 := by
      have : (64 : Nat) * 256 ^ 6 < 2 ^ 56 := by decide
      have := Nat.mul_le_mul_left 64 hp
      omega
    show (numT l i <<< 8 ||| (L l (i + 1)).setWidth 64).toNat < _
    rw [step_toNat _ _ hlt, Nat.pow_succ]
    have := (L l (i + 1)).isLt
    omega
theorem numT_succ (l : Bs) (i : Nat) (h : i + 1 ≤ 7) : (numT l (i + 1)).toNat = (numT l i).toNat * 256 + (L l (i + 1)).toNat := by
  have ih := numT_lt l i (by omega)
  have hp : 256 ^ i ≤ 256 ^ 6 := Nat.pow_le_pow_right (by decide) (by omega)
  have hlt : (numT l i).toNat < 2 ^ 56 := by
    have : (64 : Nat) * 256 ^ 6 < 2 ^ 56 := by decide
    have := Nat.mul_le_mul_left 64 hp
    omega
  exact step_toNat _ _ hlt
theorem numT_byte (l : Bs) : ∀ i : Nat, i ≤ 7 → ∀ j, j ≤ i → (numT l i).toNat / 256 ^ (i - j) % 256 = if j = 0 then (L l 0 &&& 63#8).toNat else (L l j).toNat
  | 0, _, j, hj => by
    obtain rfl : j = 0 := by omega
    have := and63_lt (L l 0)
    rw [if_pos rfl]
    show (BitVec.setWidth 64 (L l 0 &&& 63#8)).toNat / 256 ^ 0 % 256 = _
    rw [BitVec.toNat_setWidth, Nat.pow_zero, Nat.div_one]
    omega
  | i + 1, h, j, hj => by
    rw [numT_succ l i h]
    have hc := (L l (i + 1)).isLt
    by_cases hji : j = i + 1
    · subst hji
      rw [Nat.sub_self, Nat.pow_zero, Nat.div_one, if_neg (by omega)]
      omega
    · have ih := numT_byte l i (by omega) j (by omega)
      rw [show i + 1 - j = (i - j) + 1 by omega, Nat.pow_succ, Nat.mul_comm (256 ^ (i - j)), ← Nat.div_div_eq_div_mul]
      rw [show ((numT l i).toNat * 256 + (L l (i + 1)).toNat) / 256 = (numT l i).toNat by omega]
      exact ih
theorem L_ext {a b : Bs} (hl : a.length = b.length) (h : ∀ i, i < a.length → L a i = L b i) : a = b := by
  refine List.ext_getElem hl fun i h1 h2 => ?_
  have := h i h1
  rwa [L_lt h1, L_lt h2] at this
theorem take_back {l : Bs} {n : BitVec 64} {k : Nat} (h : takeM l = (n, k, 0)) (hk : k = lenN n) : l.take k = putL n ∧ 1 ≤ k ∧ k ≤ l.length := by
  obtain ⟨h1, h2⟩ := takeM_le h
  have h2 := h2 rfl
  unfold takeM at h
  split at h
  · simp only [Prod.mk.injEq] at h; exact absurd h.2.2 (by decide)
  · simp only [Prod.mk.injEq] at h
    obtain ⟨hn, hs, _⟩ := h
    rw [hs] at hn
    have hk8 := sizeT_le (L l 0)
    rw [hs] at hk8
    refine ⟨?_, h2, h1⟩
    have hlen : (l.take k).length = k := by rw [List.length_take]; omega
    refine L_ext (by rw [hlen, putL_len, hk]) fun i hi => ?_
    rw [hlen] at hi
    have hlt : L (l.take k) i = L l i := L_take _ _ _ hi
    rw [hlt]
    have hb := numT_byte l (k - 1) (by omega) i (by omega)
    rw [hn] at hb
    show L l i = L (wideL n (lenN n)) i
    rw [← hk, L_wide hi]
    by_cases hi0 : i = 0
    · subst hi0
      rw [if_pos rfl] at hb ⊢
      have : byteN n (k - 1) = L l 0 &&& 63#8 := BitVec.eq_of_toNat_eq (by rw [byteN_toNat]; exact hb)
      rw [this, ← hs, mark_back]
    · rw [if_neg hi0] at hb ⊢
      exact BitVec.eq_of_toNat_eq (by rw [byteN_toNat]; exact hb.symm)
theorem least_back {l l' : Bs} {e : Int} {n : BitVec 64} (h : leastM l e = (n, l', 0)) : e = 0 ∧ l = putL n ++ l' ∧ lenN n ≠ 0 := by
  unfold leastM nextM at h
  by_cases he : e ≠ 0
  · rw [if_pos he] at h
    simp only [if_true, Prod.mk.injEq] at h
    exact absurd h.2.2 he
  rw [if_neg he] at h
  by_cases ht : (takeM l).2.2 ≠ 0
  · rw [if_pos ht] at h
    simp only [if_true, Prod.mk.injEq] at h
    exact absurd h.2.2 ht
  rw [if_neg ht] at h
  simp only [Bool.true_eq_false, if_false] at h
  by_cases hk : (takeM l).2.1 ≠ lenN (takeM l).1
  · rw [if_pos hk] at h
    have : failM (l.drop (takeM l).2.1) 0 4 = ([], 4) := by unfold failM; rw [if_neg (by decide)]
    rw [this] at h
    simp only [Prod.mk.injEq] at h
    exact absurd h.2.2 (by decide)
  rw [if_neg hk] at h
  simp only [Prod.mk.injEq] at h
  obtain ⟨h1, h2, _⟩ := h
  have hk : (takeM l).2.1 = lenN (takeM l).1 := by omega
  have ht0 : takeM l = ((takeM l).1, (takeM l).2.1, 0) := by
    have : (takeM l).2.2 = 0 := by omega
    rw [← this]
  obtain ⟨g1, g2, g3⟩ := take_back ht0 hk
  rw [h1] at g1 hk
  refine ⟨by omega, ?_, by omega⟩
  rw [← g1, ← h2, List.take_append_drop]
end Vi
end Go.Proofs.Ytdakmieapdpidaa
end

section
/-
  Events as bytes and back: the plain law. No condition.
-/
namespace Go.Proofs.Ytdakmieapdpidaa
set_option linter.unusedVariables false
namespace Ev
open Vi Sha
theorem failIf_0 {c : Bool} {x : Int} {l l' : Bs} {e : Int} (hx : x ≠ 0) (h : failIf c x (l, e) = (l', 0)) : c = false ∧ e = 0 ∧ l = l' := by
  unfold failIf at h
  cases c
  · simp only [Bool.false_eq_true, if_false, Prod.mk.injEq] at h
    exact ⟨rfl, h.2, h.1⟩
  · simp only [if_true] at h
    unfold failM at h
    split at h
    · rename_i hc
      simp only [Prod.mk.injEq] at h
      rcases hc with hc | hc
      · exact absurd hc hx
      · exact absurd h.2 hc
    · simp only [Prod.mk.injEq] at h
      exact absurd h.2 hx
theorem bytesE_0 {l D l' : Bs} {e m : Int} (h : bytesM l e m = (D, l', 0)) : e = 0 ∧ l = D ++ l' ∧ (D.length : Int) = m := by
  unfold bytesM at h
  split at h
  · rename_i he
    simp only [Prod.mk.injEq] at h
    exact absurd h.2.2 he
  · rename_i he
    split at h
    · simp only [Prod.mk.injEq] at h
      exact absurd h.2.2 (by decide)
    · rename_i hm
      simp only [Prod.mk.injEq] at h
      obtain ⟨rfl, rfl, _⟩ := h
      refine ⟨by omega, (List.take_append_drop _ _).symm, ?_⟩
      rw [List.length_take]
      omega
theorem numsR_back : ∀ (k : Nat) {l l' : Bs} {e : Int} {N : List (BitVec 64)}, numsR k l e = (N, l', 0) → e = 0 ∧ l = putAll N ++ l' ∧ N.length = k ∧ ∀ n ∈ N, lenN n ≠ 0
  | 0, l, l', e, N, h => by
    simp only [numsR, Prod.mk.injEq] at h
    obtain ⟨rfl, rfl, rfl⟩ := h
    exact ⟨rfl, rfl, rfl, fun n hn => by cases hn⟩
  | k + 1, l, l', e, N, h => by
    rw [numsR] at h
    obtain ⟨⟨n, l1, e1⟩, hx⟩ : ∃ x, leastM l e = x := ⟨_, rfl⟩
    rw [hx] at h
    dsimp only at h
    obtain ⟨⟨R, l2, e2⟩, hr⟩ : ∃ x, numsR k l1 e1 = x := ⟨_, rfl⟩
    rw [hr] at h
    simp only [Prod.mk.injEq] at h
    obtain ⟨rfl, rfl, rfl⟩ := h
    obtain ⟨rfl, h2, h3, h4⟩ := numsR_back k hr
    obtain ⟨g1, g2, g3⟩ := least_back hx
    refine ⟨g1, ?_, by rw [List.length_cons, h3], fun m hm => ?_⟩
    · rw [g2, h2]; show _ = (putL n ++ putAll R) ++ l2; rw [List.append_assoc]
    · rcases List.mem_cons.1 hm with rfl | hm
      · exact g3
      · exact h4 m hm
theorem numsR_put : ∀ (N : List (BitVec 64)) (r : Bs), (∀ n ∈ N, lenN n ≠ 0) → numsR N.length (putAll N ++ r) 0 = (N, r, 0)
  | [], r, _ => rfl
  | n :: N, r, h => by
    show numsR (N.length + 1) ((putL n ++ putAll N) ++ r) 0 = _
    rw [List.append_assoc, numsR, least_put (h n (List.mem_cons_self ..))]
    dsimp only
    rw [numsR_put N r fun m hm => h m (List.mem_cons_of_mem _ hm)]
theorem min20 {m : BitVec 64} (h : ¬ 20#64 < m) : manyL m = (m.toNat : Int) ∧ m.toNat ≤ 20 := by
  unfold manyL
  rw [if_neg h]
  rw [BitVec.lt_def] at h
  have : (20#64).toNat = 20 := rfl
  exact ⟨rfl, by omega⟩
theorem take3_back {kk : BitVec 8} {t : BitVec 64} {N : List (BitVec 64)} {l l' : Bs} {e : Int} {ev : Ev} (h : take3 kk t N (l, e) = (ev, l', 0)) :
    e = 0 ∧ ev.k = kk ∧ ev.t = t ∧ ev.N = N ∧ l = (if evData kk = true then longL ev.D else []) ++ l' ∧ ev.D.length ≤ 20 ∧ (evData kk = false → ev.D = []) := by
  cases hd : evData kk
  · rw [take3_no hd] at h
    simp only [Prod.mk.injEq] at h
    obtain ⟨rfl, rfl, rfl⟩ := h
    exact ⟨rfl, rfl, rfl, rfl, rfl, Nat.zero_le _, fun _ => rfl⟩
  · obtain ⟨⟨m, l1, e1⟩, hx⟩ : ∃ x, leastM l e = x := ⟨_, rfl⟩
    obtain ⟨⟨l2, e2⟩, hf⟩ : ∃ x, failIf (decide (20#64 < m)) 4 (l1, e1) = x := ⟨_, rfl⟩
    obtain ⟨⟨D, l3, e3⟩, hb⟩ : ∃ x, data1 m (l2, e2) = x := ⟨_, rfl⟩
    rw [take3_ok (D := D) (l2 := l3) (e2 := e3) hd hx (by rw [hf]; exact hb)] at h
    simp only [Prod.mk.injEq] at h
    obtain ⟨rfl, rfl, rfl⟩ := h
    obtain ⟨rfl, b2, b3⟩ := bytesE_0 (show bytesM l2 e2 (manyL m) = (D, l3, 0) from hb)
    obtain ⟨f1, rfl, rfl⟩ := failIf_0 (by decide) hf
    obtain ⟨g1, g2, g3⟩ := least_back hx
    obtain ⟨m1, m2⟩ := min20 (of_decide_eq_false f1)
    have hm : m = BitVec.ofNat 64 D.length := by
      apply BitVec.eq_of_toNat_eq
      rw [BitVec.toNat_ofNat]
      omega
    refine ⟨g1, rfl, rfl, rfl, ?_, by show D.length ≤ 20; omega, fun h => by cases h⟩
    rw [if_pos rfl, g2, b2]
    show _ = (putL (BitVec.ofNat 64 D.length) ++ D) ++ l3
    rw [← hm, List.append_assoc]
theorem take3_put {e : Ev} (r : Bs) (h1 : e.D.length ≤ 20) (h2 : evData e.k = false → e.D = []) : take3 e.k e.t e.N ((if evData e.k = true then longL e.D else []) ++ r, 0) = (e, r, 0) := by
  cases hd : evData e.k
  · rw [take3_no hd]
    have := h2 hd
    cases e
    dsimp only at this ⊢
    subst this
    rfl
  · rw [if_pos rfl]
    have hl : lenN (BitVec.ofNat 64 e.D.length) ≠ 0 := lenN_of (by omega)
    have hx : leastM (longL e.D ++ r) 0 = (BitVec.ofNat 64 e.D.length, e.D ++ r, 0) := by
      show leastM ((putL _ ++ e.D) ++ r) 0 = _
      rw [List.append_assoc, least_put hl]
    have hm : (BitVec.ofNat 64 e.D.length).toNat = e.D.length := by rw [BitVec.toNat_ofNat]; omega
    have hlt : ¬ 20#64 < BitVec.ofNat 64 e.D.length := by
      rw [BitVec.lt_def, hm]
      have : (20#64).toNat = 20 := rfl
      omega
    refine take3_ok hd hx (D := e.D) (l2 := r) (e2 := 0) ?_
    rw [decide_eq_false hlt]
    show bytesM (e.D ++ r) 0 (manyL _) = _
    rw [(min20 hlt).1, hm]
    unfold bytesM
    rw [if_neg (by decide), if_neg (by rw [List.length_append]; omega)]
    rw [Int.toNat_natCast, List.take_left, List.drop_left]
theorem kind_back {k : BitVec 64} (h : evOk (kindL k) = true) : BitVec.setWidth 64 (kindL k) = k := by
  unfold kindL at h ⊢
  by_cases hk : 255#64 < k
  · rw [if_pos hk] at h; exact absurd h (by decide)
  · rw [if_neg hk] at h ⊢
    rw [BitVec.lt_def] at hk
    have : (255#64).toNat = 255 := rfl
    apply BitVec.eq_of_toNat_eq
    rw [BitVec.toNat_setWidth, BitVec.toNat_setWidth]
    omega
theorem kind_put {k : BitVec 8} : kindL (BitVec.setWidth 64 k) = k := by
  unfold kindL
  have := k.isLt
  rw [if_neg (by rw [BitVec.lt_def, BitVec.toNat_setWidth]; have : (255#64).toNat = 255 := rfl; omega)]
  apply BitVec.eq_of_toNat_eq
  rw [BitVec.toNat_setWidth, BitVec.toNat_setWidth]
  omega
/-- An event that may be, behind a time. -/
structure GoodE (last : BitVec 64) (e : Ev) : Prop where
  k : evOk e.k = true
  lo : last.toNat ≤ e.t.toNat
  hi : e.t.toNat ≤ 1125899906842624
  N : e.N.length = (evNames e.k).length
  n : ∀ n ∈ e.N, lenN n ≠ 0
  D : e.D.length ≤ 20
  nD : evData e.k = false → e.D = []
theorem take_back_ev {last : BitVec 64} {l l' : Bs} {e : Int} {ev : Ev} (hl : last.toNat ≤ 1125899906842624) (h : takeE l e last = (ev, l', 0)) : e = 0 ∧ l = evB last ev ++ l' ∧ GoodE last ev := by
  unfold takeE at h
  obtain ⟨⟨k, l1, e1⟩, hx⟩ : ∃ x, leastM l e = x := ⟨_, rfl⟩
  rw [hx] at h
  dsimp only at h
  split at h
  · rename_i hc
    simp only [Prod.mk.injEq] at h
    exact absurd h.2.2 hc
  obtain ⟨⟨l2, e2⟩, hf⟩ : ∃ x, failIf (!evOk (kindL k)) 5 (l1, e1) = x := ⟨_, rfl⟩
  rw [hf] at h
  obtain ⟨⟨n, l3, e3⟩, hy⟩ : ∃ x, leastM l2 e2 = x := ⟨_, rfl⟩
  rw [take1_eq hy] at h
  obtain ⟨⟨l4, e4⟩, hg⟩ : ∃ x, failIf (decide (1125899906842624#64 < last + n)) 21 (l3, e3) = x := ⟨_, rfl⟩
  rw [hg] at h
  unfold take2 at h
  obtain ⟨⟨N, l5, e5⟩, hn⟩ : ∃ x, numsR (evNames (kindL k)).length l4 e4 = x := ⟨_, rfl⟩
  dsimp only at h
  rw [hn] at h
  obtain ⟨rfl, t1, t2, t3, t4, t5, t6⟩ := take3_back h
  obtain ⟨rfl, n2, n3, n4⟩ := numsR_back _ hn
  obtain ⟨g1, rfl, rfl⟩ := failIf_0 (by decide) hg
  obtain ⟨rfl, y2, y3⟩ := least_back hy
  obtain ⟨f1, rfl, rfl⟩ := failIf_0 (by decide) hf
  obtain ⟨x1, x2, x3⟩ := least_back hx
  have hok : evOk (kindL k) = true := by simpa using f1
  have hn62 : n.toNat < 4611686018427387904 := by
    have := lenN_spec n
    omega
  have hsum : (last + n).toNat = last.toNat + n.toNat := by rw [BitVec.toNat_add]; omega
  have hg1 := of_decide_eq_false g1
  rw [BitVec.lt_def, hsum] at hg1
  have hM : (1125899906842624#64).toNat = 1125899906842624 := rfl
  refine ⟨x1, ?_, ⟨by rw [t1]; exact hok, by rw [t2, hsum]; omega, by rw [t2, hsum]; omega, by rw [t3, t1, n3], by rw [t3]; exact n4, t5, by rw [t1]; exact t6⟩⟩
  have hk := kind_back hok
  have hsub : last + n - last = n := by rw [BitVec.add_comm, BitVec.add_sub_cancel]
  unfold evB
  rw [x2, y2, n2, t4, t1, t2, t3, hk, hsub]
  show _ = ((putL k ++ (putL n ++ [])) ++ putAll N ++ _) ++ l'
  simp only [List.append_assoc, List.append_nil]
theorem take_put_ev {last : BitVec 64} {ev : Ev} (h : GoodE last ev) (r : Bs) : takeE (evB last ev ++ r) 0 last = (ev, r, 0) := by
  have h1 := h.lo
  have h2 := h.hi
  have hsub : (ev.t - last).toNat = ev.t.toNat - last.toNat := by rw [BitVec.toNat_sub]; omega
  have hadd : last + (ev.t - last) = ev.t := by
    apply BitVec.eq_of_toNat_eq
    rw [BitVec.toNat_add, hsub]; omega
  have hl1 : lenN (BitVec.setWidth 64 ev.k) ≠ 0 := lenN_lt (by rw [BitVec.toNat_setWidth]; have := ev.k.isLt; omega)
  have hl2 : lenN (ev.t - last) ≠ 0 := lenN_lt (by omega)
  have hb : evB last ev ++ r = putL (BitVec.setWidth 64 ev.k) ++ (putL (ev.t - last) ++ (putAll ev.N ++ ((if evData ev.k = true then longL ev.D else []) ++ r))) := by
    unfold evB
    show ((putL _ ++ (putL _ ++ [])) ++ putAll ev.N ++ _) ++ r = _
    simp only [List.append_assoc, List.append_nil]
  have hM : (1125899906842624#64).toNat = 1125899906842624 := rfl
  rw [hb]
  unfold takeE
  rw [least_put hl1]
  dsimp only
  rw [if_neg (by decide), kind_put, h.k]
  show take1 ev.k last (_, 0) = _
  rw [take1_eq (least_put hl2 _), hadd, decide_eq_false (by rw [BitVec.lt_def]; omega)]
  show take2 ev.k ev.t (_, 0) = _
  unfold take2
  dsimp only
  rw [← h.N, numsR_put _ _ h.n]
  exact take3_put r h.D h.nD
end Ev
end Go.Proofs.Ytdakmieapdpidaa
end

section
/-
  Lists of events as bytes and back: the plain law. No condition.
-/
namespace Go.Proofs.Ytdakmieapdpidaa
set_option linter.unusedVariables false
namespace Ev
open Vi Sha
def catE : BitVec 64 → List Ev → Bs
  | _, [] => []
  | last, e :: r => evB last e ++ catE e.t r
def GoodL : BitVec 64 → List Ev → Prop
  | _, [] => True
  | last, e :: r => GoodE last e ∧ (e.k = 19#8 → r = []) ∧ GoodL e.t r
theorem GoodE.check {last : BitVec 64} {e : Ev} (h : GoodE last e) : checkM e = 0 ∧ ¬ e.t < last := by
  have hM : (1125899906842624#64).toNat = 1125899906842624 := rfl
  have hT : (4611686018427387903#64).toNat = 4611686018427387903 := rfl
  have h1 := h.hi
  have h2 := h.lo
  have h3 := h.D
  refine ⟨?_, by rw [BitVec.lt_def]; omega⟩
  unfold checkM
  rw [if_neg (by rw [h.k]; decide), if_neg (by rw [BitVec.lt_def]; omega), if_neg (fun hc => hc h.N), if_neg (by omega), if_neg, if_neg]
  · rintro ⟨n, hn, hb⟩
    have h4 := h.n n hn
    have := lenN_spec n
    rw [BitVec.lt_def] at hb
    omega
  · rintro ⟨hc, hd⟩
    rw [h.nD hd] at hc
    exact absurd hc (by decide)
theorem good_of {last : BitVec 64} {e : Ev} (h : checkM e = 0) (ht : ¬ e.t < last) : GoodE last e := by
  have hok := check_ok h
  rw [BitVec.lt_def] at ht
  refine ⟨hok.k, by omega, hok.t, ?_, hok.n, hok.D, fun hd => ?_⟩
  · unfold checkM at h
    rw [if_neg (by rw [hok.k]; decide)] at h
    by_cases h2 : 1125899906842624#64 < e.t
    · rw [if_pos h2] at h; cases h
    rw [if_neg h2] at h
    by_cases h3 : e.N.length ≠ (evNames e.k).length
    · rw [if_pos h3] at h; cases h
    omega
  · unfold checkM at h
    rw [if_neg (by rw [hok.k]; decide)] at h
    by_cases h2 : 1125899906842624#64 < e.t
    · rw [if_pos h2] at h; cases h
    rw [if_neg h2] at h
    by_cases h3 : e.N.length ≠ (evNames e.k).length
    · rw [if_pos h3] at h; cases h
    rw [if_neg h3] at h
    by_cases h4 : 20 < e.D.length
    · rw [if_pos h4] at h; cases h
    rw [if_neg h4] at h
    by_cases h5 : 0 < e.D.length ∧ evData e.k = false
    · rw [if_pos h5] at h; cases h
    exact List.eq_nil_of_length_eq_zero (by
      rcases Nat.eq_zero_or_pos e.D.length with h6 | h6
      · exact h6
      · exact absurd ⟨h6, hd⟩ h5)
theorem encL_good : ∀ (es : List Ev) (last : BitVec 64) (b : Bs), GoodL last es → encL es last b = (b ++ catE last es, 0)
  | [], _, b, _ => by rw [encL, catE, List.append_nil]
  | e :: r, last, b, ⟨h1, h2, h3⟩ => by
    obtain ⟨c1, c2⟩ := h1.check
    rw [encL, if_neg (by omega), if_neg c2, if_neg (fun hc => hc.2 (h2 hc.1)), encL_good r e.t _ h3, catE, List.append_assoc]
theorem encL_back : ∀ (es : List Ev) (last : BitVec 64) (b : Bs) {c : Bs}, encL es last b = (c, 0) → GoodL last es ∧ c = b ++ catE last es
  | [], _, b, c, h => by
    rw [encL] at h
    simp only [Prod.mk.injEq] at h
    exact ⟨trivial, by rw [catE, List.append_nil]; exact h.1.symm⟩
  | e :: r, last, b, c, h => by
    rw [encL] at h
    by_cases h1 : checkM e ≠ 0
    · rw [if_pos h1] at h
      simp only [Prod.mk.injEq] at h
      exact absurd h.2 h1
    rw [if_neg h1] at h
    by_cases h2 : e.t < last
    · rw [if_pos h2] at h
      simp only [Prod.mk.injEq] at h
      exact absurd h.2 (by decide)
    rw [if_neg h2] at h
    by_cases h3 : e.k = 19#8 ∧ r ≠ []
    · rw [if_pos h3] at h
      simp only [Prod.mk.injEq] at h
      exact absurd h.2 (by decide)
    rw [if_neg h3] at h
    obtain ⟨g1, g2⟩ := encL_back r e.t _ h
    refine ⟨⟨good_of (by omega) h2, fun hk => ?_, g1⟩, by rw [g2, catE, List.append_assoc]⟩
    exact Decidable.byContradiction fun hr => h3 ⟨hk, hr⟩
theorem evsR_back : ∀ (k : Nat) {last : BitVec 64} {l l' : Bs} {e : Int} {es : List Ev}, last.toNat ≤ 1125899906842624 → evsR k last l e = (es, l', 0) → e = 0 ∧ es.length = k ∧ GoodL last es ∧ l = catE last es ++ l'
  | 0, last, l, l', e, es, _, h => by
    rw [evsR] at h
    simp only [Prod.mk.injEq] at h
    obtain ⟨rfl, rfl, rfl⟩ := h
    exact ⟨rfl, rfl, trivial, rfl⟩
  | k + 1, last, l, l', e, es, hl, h => by
    by_cases he : e ≠ 0
    · rw [evsR_err he] at h
      simp only [Prod.mk.injEq] at h
      exact absurd h.2.2 he
    obtain rfl : e = 0 := by omega
    obtain ⟨⟨ev, l1, e1⟩, ht⟩ : ∃ x, takeE l 0 last = x := ⟨_, rfl⟩
    obtain ⟨⟨l2, e2⟩, hf⟩ : ∃ x, failIf (decide (ev.k = 19#8) && decide (k ≠ 0)) 10 (l1, e1) = x := ⟨_, rfl⟩
    rw [evsR_step ht hf] at h
    obtain ⟨⟨R, l3, e3⟩, hr⟩ : ∃ x, evsR k ev.t l2 e2 = x := ⟨_, rfl⟩
    rw [hr] at h
    simp only [Prod.mk.injEq] at h
    obtain ⟨rfl, rfl, rfl⟩ := h
    have hev : e2 = 0 → e1 = 0 := by
      rintro rfl
      exact (failIf_0 (by decide) hf).2.1
    by_cases he2 : e2 = 0
    · subst he2
      obtain ⟨f1, rfl, rfl⟩ := failIf_0 (by decide) hf
      obtain ⟨_, g2, g3⟩ := take_back_ev hl ht
      obtain ⟨_, r2, r3, r4⟩ := evsR_back k g3.hi hr
      refine ⟨rfl, by rw [List.length_cons, r2], ⟨g3, fun h19 => ?_, r3⟩, by rw [g2, r4, catE, List.append_assoc]⟩
      rw [h19] at f1
      have hk0 : k = 0 := by
        by_cases hk : k = 0
        · exact hk
        · rw [decide_eq_true hk] at f1; exact absurd f1 (by decide)
      exact List.eq_nil_of_length_eq_zero (by omega)
    · rw [evsR_err he2] at hr
      simp only [Prod.mk.injEq] at hr
      exact absurd hr.2.2 he2
theorem evsR_put : ∀ (es : List Ev) (last : BitVec 64) (r : Bs), GoodL last es → evsR es.length last (catE last es ++ r) 0 = (es, r, 0)
  | [], _, r, _ => rfl
  | e :: es, last, r, ⟨h1, h2, h3⟩ => by
    rw [List.length_cons, catE, List.append_assoc]
    have hf : failIf (decide (e.k = 19#8) && decide (es.length ≠ 0)) 10 (catE e.t es ++ r, 0) = (catE e.t es ++ r, 0) := by
      have : (decide (e.k = 19#8) && decide (es.length ≠ 0)) = false := by
        by_cases hk : e.k = 19#8
        · rw [h2 hk]; simp
        · rw [decide_eq_false hk]; rfl
      rw [this]; rfl
    rw [evsR_step (take_put_ev h1 _) hf, evsR_put es e.t r h3]
abbrev magicE : Bs := [66#8, 73#8, 78#8, 49#8]
theorem enc_back {es : List Ev} {b : Bs} (h : encM es = (b, 0)) : es.length ≤ 2048 ∧ GoodL 0#64 es ∧ b = magicE ++ (putL (BitVec.ofNat 64 es.length) ++ catE 0#64 es) := by
  unfold encM at h
  by_cases h1 : 2048 < es.length
  · rw [if_pos h1] at h
    simp only [Prod.mk.injEq] at h
    exact absurd h.2 (by decide)
  rw [if_neg h1] at h
  obtain ⟨g1, g2⟩ := encL_back es _ _ h
  refine ⟨by omega, g1, ?_⟩
  rw [g2]
  show (magicE ++ (putL _ ++ [])) ++ _ = _
  rw [List.append_nil, List.append_assoc]
theorem enc_of {es : List Ev} (h1 : es.length ≤ 2048) (h2 : GoodL 0#64 es) : encM es = (magicE ++ (putL (BitVec.ofNat 64 es.length) ++ catE 0#64 es), 0) := by
  unfold encM
  rw [if_neg (by omega), encL_good es _ _ h2]
  show ((magicE ++ (putL _ ++ [])) ++ _, (0 : Int)) = _
  rw [List.append_nil, List.append_assoc]
theorem dec_app {es : List Ev} {b : Bs} (h : encM es = (b, 0)) (r : Bs) : decM (b ++ r) = finD (es, r, 0) := by
  obtain ⟨h1, h2, rfl⟩ := enc_back h
  have hn : (BitVec.ofNat 64 es.length).toNat = es.length := by rw [BitVec.toNat_ofNat]; omega
  have hb : bytesM (magicE ++ (putL (BitVec.ofNat 64 es.length) ++ (catE 0#64 es ++ r))) 0 4 = (magicE, putL (BitVec.ofNat 64 es.length) ++ (catE 0#64 es ++ r), 0) := by
    unfold bytesM
    rw [if_neg (by decide), if_neg (by rw [List.length_append]; simp only [List.length_cons, List.length_nil]; omega)]
    rfl
  rw [List.append_assoc, List.append_assoc]
  unfold decM
  rw [hb]
  show dec2 (failIf (decide ((0 : Int) = 0) && decide (U8 magicE ≠ [66, 73, 78, 49])) 4 (_, 0)) = _
  rw [show (decide ((0 : Int) = 0) && decide (U8 magicE ≠ [66, 73, 78, 49])) = false by decide]
  show dec2 (_, 0) = _
  unfold dec2
  dsimp only
  rw [least_put (lenN_of (by omega))]
  dsimp only
  rw [decide_eq_false (by rw [BitVec.lt_def, hn]; have : (2048#64).toNat = 2048 := rfl; omega)]
  show dec3 _ (_, 0) = _
  unfold dec3
  dsimp only
  rw [hn, evsR_put es _ r h2]
theorem dec_enc {es : List Ev} {b : Bs} (h : encM es = (b, 0)) : decM b = (es, 0) := by
  have := dec_app h []
  rw [List.append_nil] at this
  rw [this]; rfl
theorem dec_more {es : List Ev} {b r : Bs} (h : encM es = (b, 0)) (hr : r ≠ []) : decM (b ++ r) = ([], 24) := by
  rw [dec_app h]
  have hp : 0 < r.length := List.length_pos_iff.2 hr
  have : endM r 0 = ([], 24) := by unfold endM; rw [if_pos hp]; unfold failM; rw [if_neg (by decide)]
  unfold finD
  dsimp only
  rw [this, if_pos (by decide)]
theorem enc_dec {es : List Ev} {b : Bs} (h : decM b = (es, 0)) : encM es = (b, 0) := by
  unfold decM at h
  obtain ⟨⟨m, l1, e1⟩, hb⟩ : ∃ x, bytesM b 0 4 = x := ⟨_, rfl⟩
  rw [hb] at h
  dsimp only at h
  obtain ⟨⟨l2, e2⟩, hf⟩ : ∃ x, failIf (decide (e1 = 0) && decide (U8 m ≠ [66, 73, 78, 49])) 4 (l1, e1) = x := ⟨_, rfl⟩
  rw [hf] at h
  unfold dec2 at h
  obtain ⟨⟨n, l3, e3⟩, hx⟩ : ∃ x, leastM l2 e2 = x := ⟨_, rfl⟩
  dsimp only at h
  rw [hx] at h
  dsimp only at h
  obtain ⟨⟨l4, e4⟩, hg⟩ : ∃ x, failIf (decide (2048#64 < n)) 7 (l3, e3) = x := ⟨_, rfl⟩
  rw [hg] at h
  unfold dec3 at h
  dsimp only at h
  obtain ⟨⟨R, l5, e5⟩, hr⟩ : ∃ x, evsR n.toNat 0#64 l4 e4 = x := ⟨_, rfl⟩
  rw [hr] at h
  obtain ⟨⟨l6, e6⟩, hz⟩ : ∃ x, endM l5 e5 = x := ⟨_, rfl⟩
  unfold finD at h
  dsimp only at h
  rw [hz] at h
  dsimp only at h
  split at h
  · rename_i hc
    simp only [Prod.mk.injEq] at h
    exact absurd h.2 hc
  rename_i hc
  simp only [Prod.mk.injEq] at h
  obtain ⟨rfl, _⟩ := h
  have hl5 : l5 = [] ∧ e5 = 0 := by
    unfold endM at hz
    split at hz
    · unfold failM at hz
      split at hz
      · rename_i h8
        simp only [Prod.mk.injEq] at hz
        rcases h8 with h8 | h8
        · exact absurd h8 (by decide)
        · exact absurd hz.2 (by omega)
      · simp only [Prod.mk.injEq] at hz
        omega
    · rename_i h7
      simp only [Prod.mk.injEq] at hz
      exact ⟨List.eq_nil_of_length_eq_zero (by omega), by omega⟩
  obtain ⟨rfl, rfl⟩ := hl5
  obtain ⟨rfl, r2, r3, r4⟩ := evsR_back _ (by decide) hr
  obtain ⟨g1, rfl, rfl⟩ := failIf_0 (by decide) hg
  obtain ⟨rfl, x2, x3⟩ := least_back hx
  obtain ⟨f1, rfl, rfl⟩ := failIf_0 (by decide) hf
  obtain ⟨_, b2, b3⟩ := bytesE_0 hb
  have hm : m = magicE := by
    have h1 : U8 m = [66, 73, 78, 49] := by
      rw [show decide ((0 : Int) = 0) = true from rfl, Bool.true_and] at f1
      exact Decidable.not_not.1 (of_decide_eq_false f1)
    exact U8_inj (h1.trans (by decide))
  have hn := of_decide_eq_false g1
  rw [BitVec.lt_def] at hn
  have h20 : (2048#64).toNat = 2048 := rfl
  have hnn : n = BitVec.ofNat 64 R.length := by
    apply BitVec.eq_of_toNat_eq
    rw [BitVec.toNat_ofNat]
    omega
  rw [enc_of (by omega) r3, b2, x2, r4, hm, hnn, List.append_nil]
theorem dec_err {b : Bs} {es : List Ev} {e : Int} (h : decM b = (es, e)) (he : e ≠ 0) : es = [] := by
  unfold decM dec2 dec3 finD at h
  split at h
  · simp only [Prod.mk.injEq] at h; exact h.1.symm
  · simp only [Prod.mk.injEq] at h; exact absurd h.2.symm he
theorem dec_cut {es : List Ev} {b : Bs} (h : encM es = (b, 0)) {m : Nat} (hm : m < b.length) : (decM (b.take m)).2 ≠ 0 := by
  intro hc
  obtain ⟨⟨es', e'⟩, hd⟩ : ∃ x, decM (b.take m) = x := ⟨_, rfl⟩
  rw [hd] at hc
  dsimp only at hc
  subst hc
  have h1 := enc_dec hd
  have h2 := dec_more h1 (r := b.drop m) (fun h0 => by
    have := congrArg List.length h0
    rw [List.length_drop] at this
    simp only [List.length_nil] at this
    omega)
  rw [List.take_append_drop, dec_enc h] at h2
  simp only [Prod.mk.injEq] at h2
  exact absurd h2.2 (by decide)
end Ev
end Go.Proofs.Ytdakmieapdpidaa
end

section
/-
  Rows of events are good. No condition.
-/
namespace Go.Proofs.Ytdakmieapdpidaa
set_option linter.unusedVariables false
namespace Ev
open Vi Sha
theorem mk62_len (x : BitVec 64) : lenN (mk62 x) ≠ 0 := by
  refine lenN_lt ?_
  show (x &&& 4611686018427387903#64).toNat < _
  rw [BitVec.toNat_and]
  have h1 : (4611686018427387903#64).toNat = 4611686018427387903 := rfl
  have h2 : x.toNat &&& (4611686018427387903#64).toNat ≤ (4611686018427387903#64).toNat := Nat.and_le_right
  omega
theorem fit_shape (e : Ev) (k : BitVec 8) : evOk (fitE e k).k = true ∧ (fitE e k).N.length = (evNames (fitE e k).k).length ∧ (∀ n ∈ (fitE e k).N, lenN n ≠ 0) ∧ (fitE e k).D.length ≤ 20 ∧ (evData (fitE e k).k = false → (fitE e k).D = []) := by
  refine ⟨kindE_ok k, ?_, ?_, ?_, ?_⟩
  · show (((padE e.N ((evNames (kindE k)).length - e.N.length)).take (evNames (kindE k)).length).map mk62).length = (evNames (kindE k)).length
    rw [List.length_map, List.length_take, padE_len]
    omega
  · intro n hn
    obtain ⟨x, _, rfl⟩ := List.mem_map.1 (show n ∈ ((padE e.N ((evNames (kindE k)).length - e.N.length)).take (evNames (kindE k)).length).map mk62 from hn)
    exact mk62_len x
  · show (if evData (kindE k) = true then e.D.take 20 else []).length ≤ 20
    split
    · rw [List.length_take]; omega
    · exact Nat.zero_le _
  · intro h
    show (if evData (kindE k) = true then e.D.take 20 else []) = []
    rw [if_neg (by rw [show evData (kindE k) = false from h]; decide)]
theorem fit2_shape (e : Ev) (k : BitVec 8) : (fit2E e k).k ≠ 19#8 ∧ evOk (fit2E e k).k = true ∧ (fit2E e k).N.length = (evNames (fit2E e k).k).length ∧ (∀ n ∈ (fit2E e k).N, lenN n ≠ 0) ∧ (fit2E e k).D.length ≤ 20 ∧ (evData (fit2E e k).k = false → (fit2E e k).D = []) := by
  unfold fit2E
  split
  · exact ⟨show kindE 0#8 ≠ 19#8 by decide, fit_shape _ _⟩
  · rename_i h
    exact ⟨h, fit_shape _ _⟩
theorem at_ok {t : BitVec 64} (e : Ev) (h : t.toNat ≤ 1125899906842624) : t.toNat ≤ (atE t e).toNat ∧ (atE t e).toNat ≤ 1125899906842624 := by
  have hM : (1125899906842624#64).toNat = 1125899906842624 := rfl
  have h1 : (e.t % 100000#64).toNat < 100000 := by
    rw [BitVec.toNat_umod]
    exact Nat.mod_lt _ (by decide)
  have h2 : (t + e.t % 100000#64).toNat = t.toNat + (e.t % 100000#64).toNat := by rw [BitVec.toNat_add]; omega
  unfold atE
  split
  · rw [hM]; omega
  · rename_i hc
    rw [BitVec.lt_def, h2] at hc
    rw [h2]
    omega
theorem row_good (ks : Bs) : ∀ (es : List Ev) (i : Nat) (t : BitVec 64), t.toNat ≤ 1125899906842624 → GoodL t (rowE ks es i t) ∧ ∀ e ∈ rowE ks es i t, e.k ≠ 19#8
  | [], _, _, _ => ⟨trivial, fun e he => by cases he⟩
  | e :: r, i, t, ht => by
    obtain ⟨a1, a2⟩ := at_ok (fit2E e (keyE ks i)) ht
    obtain ⟨s0, s1, s2, s3, s4, s5⟩ := fit2_shape e (keyE ks i)
    obtain ⟨g1, g2⟩ := row_good ks r (i + 1) (atE t (fit2E e (keyE ks i))) a2
    rw [rowE]
    refine ⟨⟨⟨s1, a1, a2, s2, s3, s4, s5⟩, fun h => absurd h s0, g1⟩, fun x hx => ?_⟩
    rcases List.mem_cons.1 hx with rfl | hx
    · exact s0
    · exact g2 x hx
/-- A last event that says that there were more. -/
theorem GoodL.snoc : ∀ {es : List Ev} {last : BitVec 64} {x : Ev}, GoodL last es → (∀ e ∈ es, e.k ≠ 19#8) → GoodE (match es.getLast? with | some e => e.t | none => last) x → GoodL last (es ++ [x])
  | [], last, x, _, _, h => ⟨h, fun _ => rfl, trivial⟩
  | e :: r, last, x, ⟨h1, h2, h3⟩, hk, hx => by
    refine ⟨h1, fun h => absurd h (hk e (List.mem_cons_self ..)), GoodL.snoc h3 (fun y hy => hk y (List.mem_cons_of_mem _ hy)) ?_⟩
    cases r with
    | nil => exact hx
    | cons y r =>
      rw [List.getLast?_cons_cons] at hx
      cases hl : (y :: r).getLast? with
      | none => simp at hl
      | some z => rw [hl] at hx; exact hx
end Ev
end Go.Proofs.Ytdakmieapdpidaa
end

section
/-
  The document's numbers of one, two, four or eight bytes. No condition.
-/
namespace Go.Proofs.Ytdakmieapdpidaa
set_option linter.unusedVariables false
namespace Vi
open Sha
end Vi
namespace Sx
open Sha Vi

end Sx
end Go.Proofs.Ytdakmieapdpidaa
end

section
/-
  Events' bytes as they are meant: binnaclelaw25.encoded. No condition.
-/
namespace Go.Proofs.Ytdakmieapdpidaa
set_option linter.unusedVariables false
namespace Ev
open Vi Sha
def encB (es : List Ev) : Bs := magicE ++ (putL (BitVec.ofNat 64 es.length) ++ catE 0#64 es)
theorem evB_len2 {last : BitVec 64} {e : Ev} (h : GoodE last e) : (evB last e).length ≤ 140 := evB_len (check_ok h.check.1)
end Ev
namespace Sx
open Go.RowKit Sha Vi Ev

end Sx
end Go.Proofs.Ytdakmieapdpidaa
end

section
/-
  Rows of no events; frozen rows. No condition.
-/
namespace Go.Proofs.Ytdakmieapdpidaa
set_option linter.unusedVariables false
namespace Sx
open Go.RowKit Sha Vi Ev

set_option maxRecDepth 20000 in
theorem fn_erow0 {W : World} {ms : List Nat} {a : Option Addr} {n c : Nat} (hn : n = 0) {aK : Option Addr} {nK cK : Nat} :
    FnR Try.prog tds 9 1 [[.past W ms]] [.c (.slc a n c), .c (.slc aK nK cK)] (fun _ => True)
    (fun y hs => y = .a (.c (.slc none 0 0)) ∧ hs = [[.past W ms]]) := by
  subst hn
  refine fn_of_body tds_ok follows_ Try.func9 rfl (t := .a (.c (.slc a 0 c)) :: .a (.c (.slc aK nK cK)) :: anys (Try.f9.ntmps - 2)) rfl (fun w r0 hr _ => ?_)
  obtain ⟨x0, rfl⟩ := List.length_eq_one_iff.1 hr
  (repeat first | (refine And.intro ?_ ?_; first | exact rfl | ((exact fun h => absurd h (by first | decide)); intro yy; clear yy) | (rotate_left; (exact fun h => absurd h (by first | decide)); intro yy; clear yy) | decide | omega) | (with_reducible refine frc_bytesL (by first | omega | decide) ?_) | (with_reducible refine frc_bytesM (by first | omega | decide) ?_))
  refine .inr ⟨1, ?_⟩
  (repeat first | (refine And.intro ?_ ?_; first | exact rfl | ((exact fun h => absurd h (by first | decide)); intro yy; clear yy) | (rotate_left; (exact fun h => absurd h (by first | decide)); intro yy; clear yy) | decide | omega) | (with_reducible refine frc_bytesL (by first | omega | decide) ?_) | (with_reducible refine frc_bytesM (by first | omega | decide) ?_))
  refine ⟨.a (.c (.slc none 0 0)), [[.past W ms]], ⟨[0], ⟨rfl, rfl, rfl⟩, ?_⟩, rfl, rfl⟩
  (repeat first | exact trivial | refine ent1 ?_)
end Sx
end Go.Proofs.Ytdakmieapdpidaa
end

section
/-
  The law BlogBytes. No condition.
-/
namespace Go.Proofs.Ytdakmieapdpidaa
set_option linter.unusedVariables false
namespace Sx
open Go.RowKit Sha Vi Ev

end Sx
end Go.Proofs.Ytdakmieapdpidaa
end

section
/-
  The law BlogBytes, some events. No condition.
-/
namespace Go.Proofs.Ytdakmieapdpidaa
set_option linter.unusedVariables false
namespace Sx
open Go.RowKit Sha Vi Ev

end Sx
end Go.Proofs.Ytdakmieapdpidaa
end

section
/-
  The law BlogBytes, some events, cut. No condition.
-/
namespace Go.Proofs.Ytdakmieapdpidaa
set_option linter.unusedVariables false
namespace Sx
open Go.RowKit Sha Vi Ev

end Sx
end Go.Proofs.Ytdakmieapdpidaa
end

section
/-
  The law BlogBytes, any events. No condition.
-/
namespace Go.Proofs.Ytdakmieapdpidaa
set_option linter.unusedVariables false
namespace Sx
open Go.RowKit Sha Vi Ev

end Sx
end Go.Proofs.Ytdakmieapdpidaa
end

section
/-
  From a function over blocks to a law's walk: arguments opened. Over any program. No condition of its own.
-/
namespace Go.Proofs.Ytdakmieapdpidaa
set_option linter.unusedVariables false
namespace Sx
open Go.RowKit Go.ChangeShapes Go.WideShapes

section
variable {H : Type} {enc : TypeId × Value → H} {P : Program} {w : World} {base : Nat} {sp : Nat → Bool} {held : Bool}
theorem wf_w8 {a : Int} (h : (Lit.int .u8 a).wf = true) : a = ((BitVec.ofInt 8 a).toNat : Int) := by
  have := bounds_u8 h
  rw [BitVec.toNat_ofInt]
  omega
end
theorem isAs_nil (r : Rho) : IsAs r [] [] := ⟨rfl, fun j x e => by simp at e⟩
theorem isAs_cons {r : Rho} {x : SA} {v : Value} {l : List SA} {vs : List Value} (h : SA.Is r x v) (hs : IsAs r l vs) : IsAs r (x :: l) (v :: vs) :=
  ⟨by simpa using hs.1, fun j y e => by
    cases j with
    | zero => simp at e; subst e; exact ⟨v, rfl, h⟩
    | succ j => exact hs.2 j y e⟩
/-- A law's walk. -/
theorem Fn.law {P : Program} {T : List (Nat × TD)} {f : FuncId} {args : List SA} {raw : World → Prop} (h : Fn P T f [] args raw (fun x hs => x = .a (.c (.bool true)) ∧ hs = [])) {w : World} {vs : List Value} (ha : IsAs [] args vs) (hr : raw w) :
    Calls P f vs.toArray w fun e w' => e = .returned (.bool true) ∧ Below w.heap.size w w' := by
  refine (Fn.calls h ha hr).mono ?_
  rintro e w' ⟨v, x, hs, r', rfl, hx, hok, rfl, rfl⟩
  obtain rfl : v = .bool true := hx
  exact ⟨rfl, hok.ext.below0⟩
end Sx
end Go.Proofs.Ytdakmieapdpidaa
end

section
/-
  Numbers of sixteen bits as arguments. Over any program. No condition of its own.
-/
namespace Go.Proofs.Ytdakmieapdpidaa
set_option linter.unusedVariables false
namespace Sx
open Go.ChangeShapes

theorem wf_w16 {a : Int} (h : (Lit.int .u16 a).wf = true) : a = ((BitVec.ofInt 16 a).toNat : Int) := by
  have := bounds_u16 h
  rw [BitVec.toNat_ofInt]
  omega
theorem wf_w64 {a : Int} (h : (Lit.int .u64 a).wf = true) : a = ((BitVec.ofInt 64 a).toNat : Int) := by
  have := bounds_u64 h
  rw [BitVec.toNat_ofInt]
  omega
end Sx
end Go.Proofs.Ytdakmieapdpidaa
end

section
/-
  From a function over blocks that are only read to a law's walk: slices of bytes that came in. Over any program. No condition of its own.
-/
namespace Go.Proofs.Ytdakmieapdpidaa
set_option linter.unusedVariables false
namespace Sx
open Go.RowKit Go.ChangeShapes Go.WideShapes Sha

theorem okWide_spot {P : Program} {w : World} {r : Reach} {b0 : Nat} {t e : TypeId} {a : Option Addr} {n c : Nat} (ht : P.underlying t = some (.slice e)) (h : Value.okWide P w r b0 t (.slice a n c)) : ∀ x, a = some x → x.spot = none := by
  rintro x rfl
  simp only [Value.okWide, ht, Cell.okWide, Cell.ok] at h
  exact h.2.2.2.1
/-- A slice of bytes that came in: nil (z) or not, its bytes, where they lie. -/
structure InB (w : World) (a : Option Addr) (n c : Nat) (z : Bool) (l : Bs) (B f : Nat) : Prop where
  len : l.length = n
  le : n ≤ c
  cap : c ≤ maxLen
  nil : z = true → l = []
  val : ∀ (r : Rho) (i : Nat), r[i]? = some (B, f) → SC.Is r (.sn z i 0 0 n c) (.slice a n c)
  at_ : ∀ r : Rho, At false r w B f (flat (bts z n 0 n (L l)))
theorem open_b8 {w : World} {a : Option Addr} {len cap : Nat} {zs : List Int} (h : IsRow .u8 w a len cap zs) (hs : ∀ x, a = some x → x.spot = none) : ∃ z l B f, InB w a len cap z l B f := by
  rcases h with ⟨rfl, rfl, rfl, rfl⟩ | ⟨x, rfl, hl, hm, hz, hc, hw⟩
  · exact ⟨true, [], 0, 0, rfl, Nat.le_refl _, by unfold maxLen; omega, fun _ => rfl, fun r i _ => .inl ⟨rfl, rfl, rfl, rfl⟩, fun r j y e => by simp [bts, flat] at e⟩
  · obtain ⟨B, f, spot⟩ := x
    obtain rfl : spot = none := hs _ rfl
    refine ⟨false, (zs.take len).map (BitVec.ofInt 8), B, f, by simp; omega, hl, hm, fun h => Bool.noConfusion h, fun r i hr => .inr (.inl ⟨rfl, B, f, hr, rfl⟩), fun r j y e => ?_⟩
    have hj : j < len := by
      rcases Nat.lt_or_ge j len with h | h
      · exact h
      · rw [List.getElem?_eq_none (by simpa [bts, flat] using h)] at e; cases e
    have e2 : y = .w8 (L ((zs.take len).map (BitVec.ofInt 8)) j) := by
      simp only [bts, flat, List.append_nil, List.getElem?_map, Option.map_eq_some_iff] at e
      obtain ⟨i, hi, rfl⟩ := e
      rw [List.getElem?_range (by omega)] at hi
      injection hi with hi
      subst hi
      have := winF_at 0 len (L ((zs.take len).map (BitVec.ofInt 8))) hj
      rwa [Nat.zero_add] at this
    subst e2
    have hc1 := hc j (by omega)
    have ha : (⟨B, f, none⟩ : Addr).add j = ⟨B, f + j, none⟩ := by unfold Addr.add; simp
    rw [ha] at hc1
    refine ⟨_, hc1, ?_, fun h => Bool.noConfusion h⟩
    show Value.int .u8 _ = Value.int .u8 _
    congr 1
    have hjz : j < zs.length := by omega
    have h3 : zs.getD j 0 = zs[j] := by rw [List.getD_eq_getElem?_getD, List.getElem?_eq_getElem hjz]; rfl
    have h4 : L ((zs.take len).map (BitVec.ofInt 8)) j = BitVec.ofInt 8 zs[j] := by
      rw [L_lt (by simp; omega)]
      simp
    rw [h3, h4]
    exact wf_w8 (hw _ (List.getElem_mem _))
/-- The blocks lie where r says. -/
def AllAt (R : Rho) (w : World) : List (List Seg) → Rho → Prop
  | [], [] => True
  | ch :: h, (B, f) :: r => At false R w B f (flat ch) ∧ AllAt R w h r
  | _, _ => False
theorem AllAt.len {R : Rho} {w : World} : ∀ {h : List (List Seg)} {r : Rho}, AllAt R w h r → r.length = h.length
  | [], [], _ => rfl
  | _ :: h, _ :: r, k => by rw [List.length_cons, List.length_cons, AllAt.len k.2]
  | [], _ :: _, k => k.elim
  | _ :: _, [], k => k.elim
theorem AllAt.get {R : Rho} {w : World} : ∀ {h : List (List Seg)} {r : Rho}, AllAt R w h r → ∀ (i : Nat) (ch : List Seg) (B f : Nat), h[i]? = some ch → r[i]? = some (B, f) → At false R w B f (flat ch)
  | [], [], _, i, _, _, _, e, _ => by simp at e
  | c :: h, (B', f') :: r, k, 0, _, _, _, e1, e2 => by
    simp at e1 e2
    obtain ⟨rfl, rfl⟩ := e2
    subst e1
    exact k.1
  | c :: h, (B', f') :: r, k, i + 1, _, _, _, e1, e2 => k.2.get i _ _ _ (by simpa using e1) (by simpa using e2)
theorem heapOk_ro {P : Program} {T : List (Nat × TD)} {w : World} {r0 : Rho} {h0 : List (List Seg)} (hat : AllAt r0 w h0 r0) (hp : ∀ (i : Nat) (W : World) (ms : List Nat), h0[i]? = some [.past W ms] → W = w) : HeapOk (cx0 P T w r0 h0.length h0) h0 r0 w := by
  have hlen := hat.len
  have hget : ∀ i, h0[i]? = some (getH h0 i) ∨ h0[i]? = none := fun i => by
    rcases Nat.lt_or_ge i h0.length with h | h
    · exact .inl (by rw [List.getElem?_eq_getElem h]; have := getH_eq h0 i; rw [List.getElem?_eq_getElem h] at this; simpa using this.symm)
    · exact .inr (List.getElem?_eq_none h)
  have out : ∀ (i : Nat) (x : Nat × Nat), h0.length ≤ i → r0[i]? = some x → False := fun i x hi e => by
    rw [List.getElem?_eq_none (by omega)] at e; cases e
  refine ⟨Ext.refl _ _, RLe.refl _, Nat.le_of_eq hlen.symm, hlen, fun i ch B f hi hr => ?_, fun i B f ho hr => (out i _ ho hr).elim, fun i B f ho hr => (out i _ ho hr).elim, fun i B f ho hl hr => ?_, fun i ch ho hl hi => ?_, fun i j B f f' ch ch' hij o1 o2 h1 h2 r1 r2 => (out i _ o1 r1).elim, fun i m B f ho _ hr => (out i _ ho hr).elim, fun i W ms hi => ?_⟩
  · have hil : i < h0.length := (List.getElem?_eq_some_iff.1 hi).1
    have : Nat.ble h0.length i = false := by
      cases e : Nat.ble h0.length i
      · rfl
      · have := ble_le e; omega
    show At (Nat.ble h0.length i) _ _ _ _ _
    rw [this]
    exact hat.get i ch B f hi hr
  · refine ⟨?_, ?_⟩
    · show B ∉ (r0.drop h0.length).map (·.1)
      rw [List.drop_eq_nil_of_le (by omega)]
      simp
    · rcases hget i with e | e
      · exact (hat.get i _ B f e hr).lt hl
      · rw [List.getElem?_eq_none_iff] at e
        exact (out i _ e hr).elim
  · have hl : ¬ flat (getH h0 i) ≠ [] := hl
    rcases hget i with e | e
    · rw [hi] at e
      injection e with e
      rw [e]
      exact Classical.not_not.1 hl
    · rw [hi] at e; cases e
  · obtain rfl := hp i W ms hi
    exact ⟨Ext.refl _ _, fun B _ h2 h3 => ⟨i, _, ms, hi, h2, h3⟩, fun j B f ho hr => (out j _ ho hr).elim⟩
def NoPast : List (List Seg) → Prop
  | [] => True
  | l :: r => (∀ W ms, l ≠ [.past W ms]) ∧ NoPast r
theorem NoPast.get {w : World} : ∀ {h : List (List Seg)}, NoPast h → ∀ (i : Nat) (W : World) (ms : List Nat), h[i]? = some [.past W ms] → W = w
  | [], _, i, _, _, e => by simp at e
  | l :: h, k, 0, W, ms, e => by simp at e; exact absurd e (k.1 W ms)
  | l :: h, k, i + 1, W, ms, e => NoPast.get k.2 i W ms (by simpa using e)
theorem bts_np (z : Bool) (N o n : Nat) (b : Nat → BitVec 8) (W : World) (ms : List Nat) : bts z N o n b ≠ [.past W ms] := by
  cases z <;> (intro e; simp [bts] at e)
/-- A law's walk: what came in is only read. -/
theorem FnR.law {P : Program} {T : List (Nat × TD)} {f : FuncId} {n : Nat} {h0 : List (List Seg)} {args : List SA} {raw : World → Prop} {w : World} {vs : List Value} {r0 : Rho} (h : FnR P T f n h0 args raw (fun x _ => x = .a (.c (.bool true)))) (hn : n = h0.length)
    (hat : AllAt r0 w h0 r0) (ha : IsAs r0 args vs) (hr : raw w) (hp : NoPast h0 := by (repeat' first | exact trivial | refine And.intro ?_ ?_ | exact Go.Proofs.Ytdakmieapdpidaa.Sx.bts_np _ _ _ _ _ | (intro W ms e; cases e))) :
    Calls P f vs.toArray w fun e w' => e = .returned (.bool true) ∧ Below w.heap.size w w' := by
  subst hn
  refine (h w r0 vs (heapOk_ro hat hp.get) ha hr).mono ?_
  rintro e w' ⟨v, x, hs, r', rfl, hx, hok, rfl⟩
  obtain rfl : v = .bool true := hx
  refine ⟨rfl, ?_⟩
  have e : Ext ((r0.drop h0.length).map (·.1)) w w' := hok.ext
  rw [List.drop_eq_nil_of_le (by rw [hat.len]; exact Nat.le_refl _)] at e
  exact e.below0
end Sx
end Go.Proofs.Ytdakmieapdpidaa
end

section
/-
  From a function over blocks to a law's walk: structs with slices of bytes that came in. Over any program. No condition of its own.
-/
namespace Go.Proofs.Ytdakmieapdpidaa
set_option linter.unusedVariables false
namespace Sx
open Go.RowKit Go.ChangeShapes Go.WideShapes Sha Vi

theorem isL_nil (r : Rho) : IsL r [] [] := ⟨rfl, fun j x e => by simp at e⟩
theorem isL_cons {r : Rho} {x : SC} {v : Value} {l : List SC} {vs : List Value} (h : x.Is r v) (hs : IsL r l vs) : IsL r (x :: l) (v :: vs) :=
  ⟨by simpa using hs.1, fun j y e => by
    cases j with
    | zero => simp at e; subst e; exact ⟨v, rfl, h⟩
    | succ j => exact hs.2 j y e⟩
/-- What slices of bytes keep to, however long. -/
structure Sl.Fit (s : Sl) : Prop where
  fit : s.o + s.l.length ≤ s.N
  cap : s.l.length ≤ s.c
  nil : s.z = true → s.l = []
theorem Sl.Fit.ok {s : Sl} (h : s.Fit) (hs : s.l.length ≤ 1000000) : s.Ok := ⟨h.fit, h.cap, h.nil, hs⟩
/-- A slice that came in. -/
abbrev slI (z : Bool) (c : Nat) (l : Bs) : Sl := ⟨z, l.length, 0, c, l⟩
theorem InB.fit {w : World} {a : Option Addr} {n c : Nat} {z : Bool} {l : Bs} {B f : Nat} (h : InB w a n c z l B f) : (slI z c l).Fit :=
  ⟨by simp, by have := h.len; have := h.le; show l.length ≤ c; omega, h.nil⟩
theorem InB.val' {w : World} {a : Option Addr} {n c : Nat} {z : Bool} {l : Bs} {B f : Nat} (h : InB w a n c z l B f) {r : Rho} {i : Nat} (hr : r[i]? = some (B, f)) : (svC i (slI z c l)).Is r (.slice a n c) := by
  have := h.val r i hr
  rw [← h.len] at this ⊢
  exact this
theorem InB.at' {w : World} {a : Option Addr} {n c : Nat} {z : Bool} {l : Bs} {B f : Nat} (h : InB w a n c z l B f) (r : Rho) : At false r w B f (flat (svB (slI z c l))) := by
  have := h.at_ r
  rw [← h.len] at this
  exact this
end Sx
end Go.Proofs.Ytdakmieapdpidaa
end

section
/-
  A law whose arguments are raw; events as arguments, opened. No condition.
-/
namespace Go.Proofs.Ytdakmieapdpidaa
set_option linter.unusedVariables false
namespace Sx
open Go.RowKit Go.ChangeShapes Go.WideShapes Sha Vi Ev

theorem cell_block {w : World} {a : Addr} {v : Value} (h : w.cell? a = some v) : a.block < w.heap.size := by
  unfold World.cell? at h
  rcases Nat.lt_or_ge a.block w.heap.size with hb | hb
  · exact hb
  · rw [Array.getElem?_eq_none hb] at h; cases h
theorem row_bs {w : World} {a : Option Addr} {n c : Nat} {zs : List Int} (h : IsRow .u8 w a n c zs) (hs : ∀ x, a = some x → x.spot = none) : ∃ l : Bs, BsAt w [] a n c l := by
  obtain ⟨z, l, B, f, hI⟩ := open_b8 h hs
  rcases h with ⟨rfl, rfl, rfl, rfl⟩ | ⟨x, rfl, hl, hm, hz, hc, hw⟩
  · exact ⟨[], SlAt.nul⟩
  · obtain ⟨B, f, spot⟩ := x
    obtain rfl : spot = none := hs _ rfl
    have hcap := hI.cap
    refine ⟨(zs.take n).map (BitVec.ofInt 8), by simp; omega, hl, by unfold maxLen at hcap; omega, (fun e => by cases e), fun x e h0 => ?_⟩
    injection e with e
    subst e
    refine ⟨rfl, ?_, List.not_mem_nil, fun j y e => ?_⟩
    · have := cell_block (hc 0 (by omega))
      simpa [Addr.add] using this
    · have hj : j < n := by
        have := (List.getElem?_eq_some_iff.1 e).1
        simp at this; omega
      have hjz : j < zs.length := by omega
      have ha : (⟨B, f, none⟩ : Addr).add j = ⟨B, f + j, none⟩ := by unfold Addr.add; simp
      have hc1 := hc j (by omega)
      rw [ha] at hc1
      refine ⟨_, hc1, ?_⟩
      rw [List.getElem?_map, List.getElem?_map, List.getElem?_take, if_pos hj, List.getElem?_eq_getElem hjz] at e
      simp only [Option.map_some, Option.some.injEq] at e
      subst e
      show Value.int .u8 _ = Value.int .u8 _
      congr 1
      have h3 : zs.getD j 0 = zs[j] := by rw [List.getD_eq_getElem?_getD, List.getElem?_eq_getElem hjz]; rfl
      rw [h3]
      exact wf_w8 (hw _ (List.getElem_mem _))
theorem row_ns {w : World} {a : Option Addr} {n c : Nat} {zs : List Int} (h : IsRow .u64 w a n c zs) (hs : ∀ x, a = some x → x.spot = none) : ∃ l : List (BitVec 64), NsAt w [] a n c l := by
  rcases h with ⟨rfl, rfl, rfl, rfl⟩ | ⟨x, rfl, hl, hm, hz, hc, hw⟩
  · exact ⟨[], SlAt.nul⟩
  · obtain ⟨B, f, spot⟩ := x
    obtain rfl : spot = none := hs _ rfl
    have hcap : c ≤ maxLen := hm
    refine ⟨(zs.take n).map (BitVec.ofInt 64), by simp; omega, hl, by unfold maxLen at hcap; omega, (fun e => by cases e), fun x e h0 => ?_⟩
    injection e with e
    subst e
    refine ⟨rfl, ?_, List.not_mem_nil, fun j y e => ?_⟩
    · have := cell_block (hc 0 (by omega))
      simpa [Addr.add] using this
    · have hj : j < n := by
        have := (List.getElem?_eq_some_iff.1 e).1
        simp at this; omega
      have hjz : j < zs.length := by omega
      have ha : (⟨B, f, none⟩ : Addr).add j = ⟨B, f + j, none⟩ := by unfold Addr.add; simp
      have hc1 := hc j (by omega)
      rw [ha] at hc1
      refine ⟨_, hc1, ?_⟩
      rw [List.getElem?_map, List.getElem?_map, List.getElem?_take, if_pos hj, List.getElem?_eq_getElem hjz] at e
      simp only [Option.map_some, Option.some.injEq] at e
      subst e
      show Value.int .u64 _ = Value.int .u64 _
      congr 1
      have h3 : zs.getD j 0 = zs[j] := by rw [List.getD_eq_getElem?_getD, List.getElem?_eq_getElem hjz]; rfl
      rw [h3]
      exact wf_w64 (hw _ (List.getElem_mem _))
section
variable {H : Type} {enc : TypeId × Value → H} {P : Program} {w : World} {base : Nat} {held : Bool}
theorem raw_b8 {t e : TypeId} {fuel : Nat} {cs : List Value} {y : DataW H × List MemPlace} (ht : P.underlying t = some (.slice e)) (he : P.underlying e = some (.int .u8)) (hc : P.cellsOf e = 1)
    (h : DataW.trod enc P w base (fun _ => true) held fuel t cs = some y) : ∃ (a : Option Addr) (n c : Nat) (l : Bs), cs = [.slice a n c] ∧ BsAt w [] a n c l := by
  rcases open_ints ht he hc h with ⟨rfl, _⟩ | ⟨x, n, c, zs, rfl, _, hl, hm, hz, _, hcell, hwz⟩
  · exact ⟨none, 0, 0, [], rfl, SlAt.nul⟩
  · have hz : zs.length = c := by simpa using hz
    rcases Nat.eq_zero_or_pos c with hc0 | hc0
    · subst hc0
      obtain rfl : n = 0 := by omega
      exact ⟨_, 0, 0, [], rfl, by simp, Nat.le_refl _, by decide, fun _ => rfl, fun x e h0 => absurd rfl h0⟩
    · obtain ⟨l, hl⟩ := row_bs (w := w) (n := n) (c := c) (zs := zs) (.inr ⟨x, rfl, hl, hm, hz, fun i hi => hcell i hi, hwz⟩) (fun y e => by
        cases e
        have := World.cell?_spot (hcell 0 (by omega))
        simpa [Addr.add] using this)
      exact ⟨_, n, c, l, rfl, hl⟩
theorem raw_n64 {t e : TypeId} {fuel : Nat} {cs : List Value} {y : DataW H × List MemPlace} (ht : P.underlying t = some (.slice e)) (he : P.underlying e = some (.int .u64)) (hc : P.cellsOf e = 1)
    (h : DataW.trod enc P w base (fun _ => true) held fuel t cs = some y) : ∃ (a : Option Addr) (n c : Nat) (l : List (BitVec 64)), cs = [.slice a n c] ∧ NsAt w [] a n c l := by
  rcases open_ints ht he hc h with ⟨rfl, _⟩ | ⟨x, n, c, zs, rfl, _, hl, hm, hz, _, hcell, hwz⟩
  · exact ⟨none, 0, 0, [], rfl, SlAt.nul⟩
  · have hz : zs.length = c := by simpa using hz
    rcases Nat.eq_zero_or_pos c with hc0 | hc0
    · subst hc0
      obtain rfl : n = 0 := by omega
      exact ⟨_, 0, 0, [], rfl, by simp, Nat.le_refl _, by decide, fun _ => rfl, fun x e h0 => absurd rfl h0⟩
    · obtain ⟨l, hl⟩ := row_ns (w := w) (n := n) (c := c) (zs := zs) (.inr ⟨x, rfl, hl, hm, hz, fun i hi => hcell i hi, hwz⟩) (fun y e => by
        cases e
        have := World.cell?_spot (hcell 0 (by omega))
        simpa [Addr.add] using this)
      exact ⟨_, n, c, l, rfl, hl⟩
end
section
theorem isL_head {r : Rho} {x : SC} {v : Value} (h : IsL r [x] [v]) : x.Is r v := by
  obtain ⟨u, e, hu⟩ := h.2 0 x rfl
  injection e with e
  rw [e]; exact hu
variable {H : Type} {enc : TypeId × Value → H} {w : World} {base : Nat} {held : Bool}
theorem one_k8 {P : Program} {t : TypeId} {fuel : Nat} {cs : List Value} {y : DataW H × List MemPlace} (ht : P.underlying t = some (.int .u8)) (h : DataW.trod enc P w base (fun _ => true) held fuel t cs = some y) : ∃ b : BitVec 8, ∀ r : Rho, IsL r [.w8 b] cs := by
  obtain ⟨x, rfl, _, wx⟩ := DataW.trod_int ht h
  exact ⟨BitVec.ofInt 8 x, fun r => isL_cons (congrArg _ (wf_w8 wx)) (isL_nil r)⟩
theorem one_t64 {P : Program} {t : TypeId} {fuel : Nat} {cs : List Value} {y : DataW H × List MemPlace} (ht : P.underlying t = some (.int .u64)) (h : DataW.trod enc P w base (fun _ => true) held fuel t cs = some y) : ∃ b : BitVec 64, ∀ r : Rho, IsL r [.w64 b] cs := by
  obtain ⟨x, rfl, _, wx⟩ := DataW.trod_int ht h
  exact ⟨BitVec.ofInt 64 x, fun r => isL_cons (congrArg _ (wf_w64 wx)) (isL_nil r)⟩
set_option maxRecDepth 100000 in
theorem open_ev {fuel : Nat} {cs : List Value} {y : DataW H × List MemPlace} (hl : cs.length = 4) (hf : DataW.trod enc Try.prog w base (fun _ => true) held fuel 28 cs = some y) :
    ∃ (e : Ev) (x : EvC), EvAt w [] x e ∧ ∀ r : Rho, IsL r (flat (evS e x)) cs := by
  obtain ⟨xs, n, _, _, _, hxl, hg⟩ := DataW.trod_struct Try.underlying28 hf
  match cs, hl with
  | [c0, c1, c2, c3], _ =>
    match xs, hxl with
    | [y0, y1, y2, y3], _ =>
      obtain ⟨k, h0⟩ := one_k8 (P := Try.prog) (cs := [c0]) (y := y0) Try.underlying24 (hg 0 _ rfl)
      obtain ⟨t, h1⟩ := one_t64 (P := Try.prog) (cs := [c1]) (y := y1) Try.underlying25 (hg 1 _ rfl)
      obtain ⟨aN, nN, cN, N, e2, hN⟩ := raw_n64 (P := Try.prog) (cs := [c2]) (y := y2) Try.underlying26 Try.underlying25 (by kernel_rfl) (hg 2 _ rfl)
      obtain ⟨aD, nD, cD, D, e3, hD⟩ := raw_b8 (P := Try.prog) (cs := [c3]) (y := y3) Try.underlying23 Try.underlying5 (by kernel_rfl) (hg 3 _ rfl)
      injection e2 with e2; injection e3 with e3
      subst e2; subst e3
      exact ⟨⟨k, t, N, D⟩, ⟨aN, nN, cN, aD, nD, cD⟩, ⟨hN, hD⟩, fun r => isL_cons (isL_head (h0 r)) (isL_cons (isL_head (h1 r)) (isL_cons rfl (isL_cons rfl (isL_nil r))))⟩
set_option maxRecDepth 100000 in
theorem open_evs {rc : Reach} {b0 : Nat} {v : Value} {d : DataW H} {p : List MemPlace} (hval : Value.okWide Try.prog w rc b0 22 v) (h : DataW.Trod enc Try.prog w base (fun _ => true) held 22 v d p) :
    ∃ (a : Option Addr) (n c : Nat) (es : List Ev), v = .slice a n c ∧ EvsAt w [] a n c es := by
  obtain ⟨a0, n0, c0, rfl⟩ := okWide_slice Try.underlying22 hval
  have hspot := okWide_spot Try.underlying22 hval
  obtain ⟨fuel, hf⟩ := h
  rcases DataW.trod_slice Try.underlying22 hf with ⟨hcs, _⟩ | ⟨a, len, cap, elems, rest, m, _, hcs, _, hb, hl, hm, hlen, hel, _, _⟩
  · simp [Value.cells] at hcs
    obtain ⟨rfl, rfl, rfl⟩ := hcs
    exact ⟨none, 0, 0, [], rfl, EvsAt.nul⟩
  simp [Value.cells] at hcs
  obtain ⟨rfl, rfl, rfl⟩ := hcs
  have hsz : Try.prog.cellsOf 28 = 4 := by kernel_rfl
  rw [hsz] at hel
  obtain ⟨B, f, sp⟩ := a
  obtain rfl : sp = none := hspot _ rfl
  have each : ∀ k, ∃ y : Ev, k < n0 → ∃ x, ImAt w [] ((⟨B, f, none⟩ : Addr).add (k * 4)) (flat (evS y x)) ∧ EvAt w [] x y := by
    intro k
    by_cases hk : k < n0
    · have h1 := hel k hk
      rw [List.getElem?_eq_getElem (by omega), Option.bind_eq_some_iff] at h1
      obtain ⟨cs, hcs, ht⟩ := h1
      obtain ⟨hb', hlen', hget⟩ := World.cells?_some hcs
      obtain ⟨e, x, hx, hi⟩ := open_ev hlen' ht
      refine ⟨e, fun _ => ⟨x, ⟨?_, ?_, List.not_mem_nil, fun j y he => ?_⟩, hx⟩⟩
      · simp only [Addr.add]; split <;> rfl
      · have h0 := hget 0 (by omega)
        rw [List.getElem?_eq_getElem (by omega)] at h0
        exact cell_block h0
      · obtain ⟨v, e1, e2⟩ := (hi []).2 j y he
        have hj : j < 4 := (List.getElem?_eq_some_iff.1 he).1
        refine ⟨v, ?_, e2⟩
        have h0 := hget j hj
        rw [e1] at h0
        rw [← h0]
        congr 1
        simp only [Addr.add]
        split <;> split <;> simp <;> omega
    · exact ⟨⟨0#8, 0#64, [], []⟩, fun h => absurd h hk⟩
  obtain ⟨g, hg⟩ := Classical.axiomOfChoice each
  refine ⟨some ⟨B, f, none⟩, n0, c0, (List.range n0).map g, rfl, by simp, hl, by (have : c0 ≤ maxLen := hm; unfold maxLen at this; omega), (fun e => by cases e), fun A hA k e he => ?_⟩
  cases hA
  have hk : k < n0 := by have := (List.getElem?_eq_some_iff.1 he).1; simpa using this
  rw [List.getElem?_map, List.getElem?_range hk] at he
  injection he with he
  subst he
  exact hg k hk
end
end Sx
end Go.Proofs.Ytdakmieapdpidaa
end

section
/-
  A named result that becomes data; Row with its result as data; a law over a past and named blocks. No condition.
-/
namespace Go.Proofs.Ytdakmieapdpidaa
set_option linter.unusedVariables false
namespace Sx
open Go.RowKit Go.ChangeShapes Go.WideShapes Sha Vi Ev

theorem FnR.frzW {P : Program} {T : List (Nat × TD)} {f : FuncId} {n : Nat} {h0 : List (List Seg)} {args : List SA} {raw : World → Prop} {Res Res' : SV → List (List Seg) → Prop} (h : FnR P T f n h0 args raw Res)
    (k : ∀ (w : World) (r0 : Rho) x hs, r0.length = h0.length → Res x hs → FinW (cx0 P T w r0 n h0) x hs Res') : FnR P T f n h0 args raw Res' :=
  fun w r0 vs ok ha hr => (h w r0 vs ok ha hr).mono fun _ _ ⟨v, x, hs, r', e, h1, h2, h3⟩ => by
    obtain ⟨x', hs', r'', a, b, c⟩ := k w r0 x hs ok.len h3 r' _ v h2 h1
    exact ⟨v, x', hs', r'', e, a, b, c⟩
/-- A law's walk over pasts that are now, and blocks that are only read. -/
theorem FnR.lawW {P : Program} {T : List (Nat × TD)} {f : FuncId} {n : Nat} {h0 : List (List Seg)} {args : List SA} {w : World} {vs : List Value} {r0 : Rho} (h : FnR P T f n h0 args (fun _ => True) (fun x _ => x = .a (.c (.bool true)))) (hn : n = h0.length)
    (hat : AllAt r0 w h0 r0) (ha : IsAs r0 args vs) (hp : ∀ (i : Nat) (W : World) (ms : List Nat), h0[i]? = some [.past W ms] → W = w) : Calls P f vs.toArray w fun e w' => e = .returned (.bool true) ∧ Below w.heap.size w w' := by
  subst hn
  refine (h w r0 vs (heapOk_ro hat hp) ha trivial).mono ?_
  rintro e w' ⟨v, x, hs, r', rfl, hx, hok, rfl⟩
  obtain rfl : v = .bool true := hx
  refine ⟨rfl, ?_⟩
  have e : Ext ((r0.drop h0.length).map (·.1)) w w' := hok.ext
  rw [List.drop_eq_nil_of_le (by rw [hat.len]; exact Nat.le_refl _)] at e
  exact e.below0
set_option maxRecDepth 20000 in
theorem fn_erowF {W : World} {ms : List Nat} {a : Option Addr} {n c : Nat} {es : List Ev} (h : EvsAt W ms a n c es) {aK : Option Addr} {nK cK : Nat} {ks : Bs} (hK : BsAt W ms aK nK cK ks) (hl : ∀ e ∈ es, e.N.length ≤ 30 ∧ e.D.length ≤ 100) (hn60 : n ≤ 60) :
    FnR Try.prog tds 9 1 [[.past W ms]] [.c (.slc a n c), .c (.slc aK nK cK)] (fun _ => True)
    (fun y hs => ∃ a' c' W' ms', Later W ms W' ms' ∧ EvsAt W' ms' a' n c' (rowE ks es 0 0#64) ∧ y = .a (.c (.slc a' n c')) ∧ hs = [[.past W' ms']]) := by
  rcases Nat.eq_zero_or_pos n with hn | hn
  · obtain rfl : es = [] := List.length_eq_zero_iff.1 (by rw [h.len, hn])
    subst hn
    refine (fn_erow0 (W := W) (ms := ms) (a := a) (c := c) rfl (aK := aK) (nK := nK) (cK := cK)).mono (fun y hs ⟨h1, h2⟩ => ⟨none, 0, W, ms, Later.refl _ _, EvsAt.nul, h1, h2⟩)
  · refine (fn_erow h hK hl hn60 hn).frzW (fun w r0 y hs hr0 ⟨W1, ms1, cs, c', hL, hrow, hc, h1, h2⟩ => ?_)
    obtain ⟨x0, rfl⟩ := List.length_eq_one_iff.1 hr0
    subst h1; subst h2
    refine finW_frz [0] rfl (Nat.zero_lt_one) cx0_m rfl (fun W9 ms9 α hL9 hI => ?_)
    have hrl : (rowE ks es 0 0#64).length = n := by rw [rowE_len, h.len]
    refine ⟨.a (.c (.slc (some ((α 1).add (0 + 0))) n c')), [], ⟨⟨rfl, rfl, rfl⟩, ?_⟩, some ((α 1).add (0 + 0)), c', W9, ms9, hL.trans hL9, hrow.frz (F := fun j => !memB j [0]) hL9 (hI 1 rfl) hrl hc (by omega), rfl, rfl⟩
    (repeat first | exact trivial | refine ent1 ?_)
end Sx
end Go.Proofs.Ytdakmieapdpidaa
end

section
/-
  The law BlogAny. No condition.
-/
namespace Go.Proofs.Ytdakmieapdpidaa
set_option linter.unusedVariables false
namespace Sx
open Go.RowKit Sha Vi Ev

theorem take_LE {l : Bs} {m i : Nat} (h : i < m) : L (l.take m) i = L l i := by
  unfold L
  simp only [List.getD_eq_getElem?_getD]
  rw [List.getElem?_take, if_pos h]
theorem eqC_cut {q : List Nat} {s t : Sl} {k : Prop} (h : t.z = s.z ∧ t.N = s.N ∧ t.o = s.o ∧ t.l.length ≤ s.l.length ∧ ∀ i, i < t.l.length → L t.l i = L s.l i) (hk : k) : eqSegs q (svB s) (svB t) k := by
  obtain ⟨h1, h2, h3, h4, h5⟩ := h
  unfold svB
  rw [h1, h2, h3]
  cases s.z with
  | true => exact hk
  | false => exact ⟨rfl, fun j hj => eqC_win (f := winF s.o s.l.length (L s.l)) (fun i hi => by rw [winF_at _ _ _ (by omega), h5 i hi]) j, hk⟩
theorem sn_cut2 {s t : Sl} (hs : s.Ok) (h : t.z = s.z ∧ t.N = s.N ∧ t.o = s.o ∧ t.l.length ≤ s.l.length ∧ ∀ i, i < t.l.length → L t.l i = L s.l i) {hh : List (List Seg)} {j : Nat} {k : (Nat → SC) → Prop} (hj : getH hh j = svB s)
    (hk : ∀ g : Nat → SC, (∀ i, i < t.l.length → g i = .w8 (L t.l i)) → k g) : ∃ f : Nat → SC, ((t.z = true → t.l.length = 0) ∧ (t.z = false → SnAt hh j 0 t.o t.l.length 1 f)) ∧ k f := by
  obtain ⟨h1, h2, h3, h4, h5⟩ := h
  rw [h1, h3]
  exact sn_cut hs hj h4 (fun g hg => hk g (fun i hi => by rw [hg i hi, h5 i hi]))
theorem catE_len : ∀ {es : List Ev} {last : BitVec 64}, GoodL last es → (catE last es).length ≤ 140 * es.length
  | [], _, _ => Nat.zero_le _
  | e :: r, last, ⟨h1, _, h3⟩ => by
    have := evB_len2 h1
    have := catE_len h3
    rw [catE, List.length_append, List.length_cons]
    omega
theorem eqC_row5 (b sD sT sC sQ : Sl) : ∀ j, j < 5 → eqC [0, 1, 2, 3, 4, 5, 6] (nthC [svC 1 b, svC 3 sD, svC 4 sT, svC 2 sC, svC 5 sQ] j) (nthC [svC 1 b, svC 3 sD, svC 4 sT, svC 2 sC, svC 5 sQ] j) True := by
  intro j hj
  have : j = 0 ∨ j = 1 ∨ j = 2 ∨ j = 3 ∨ j = 4 := by omega
  rcases this with rfl | rfl | rfl | rfl | rfl <;> (repeat first | exact trivial | refine ent1 ?_)
theorem own_ok {c : Nat} {M : Bs} (h1 : M.length ≤ c) (h2 : M.length ≤ 1000000) : Sl.Ok ⟨false, c, 0, c, M⟩ := ⟨by show 0 + M.length ≤ c; omega, h1, (fun h => by cases h), h2⟩
set_option maxRecDepth 20000 in
set_option maxHeartbeats 16000000 in
theorem fn_blogAny {W : World} {ms : List Nat} (b : Sl) (hbf : b.Fit) {a : Option Addr} {n c : Nat} {es : List Ev} (h : EvsAt W ms a n c es) {aK : Option Addr} {nK cK : Nat} {ks : Bs} (hK : BsAt W ms aK nK cK ks) (at_ : BitVec 16) (bit : BitVec 8) :
    FnR Try.prog tds 4 2 [[.past W ms], svB b] [.c (svC 1 b), .c (.slc a n c), .c (.slc aK nK cK), .c (.w16 at_), .c (.w8 bit)] (fun _ => True)
    (fun y hs => y = .a (.c (.bool true))) := by
  have hlen := h.len
  refine fn_of_body tds_ok follows_ Try.func4 rfl (t := .a (.c (svC 1 b)) :: .a (.c (.slc a n c)) :: .a (.c (.slc aK nK cK)) :: .a (.c (.w16 at_)) :: .a (.c (.w8 bit)) :: anys (Try.f4.ntmps - 5)) rfl (fun w r0 hr _ => ?_)
  obtain ⟨x0, x1, rfl⟩ := len2' hr
  (repeat first | (refine And.intro ?_ ?_; first | exact rfl | ((exact fun h => absurd h (by first | decide)); intro yy; clear yy) | (rotate_left; (exact fun h => absurd h (by first | decide)); intro yy; clear yy) | decide | omega) | (with_reducible refine frc_bytesL (by first | omega | decide) ?_) | (with_reducible refine frc_bytesM (by first | omega | decide) ?_))
  refine call_same (fn_bawake (W := W) (ms := ms)) [0] rfl (by (repeat first | exact trivial | refine ent1 ?_)) (by (repeat first | exact trivial | refine ent1 ?_)) (fun _ _ => trivial) ?_
  rintro x hs' ⟨rfl, rfl⟩
  by_cases h1 : 400 < b.l.length
  · have e1 : decide ((400 : Int) < (b.l.length : Int)) = true := decide_eq_true (by omega)
    (repeat first | (refine And.intro ?_ ?_; first | exact rfl | ((exact fun h => absurd h (by first | decide | (rw [e1]; decide))); intro yy; clear yy) | (rotate_left; (exact fun h => absurd h (by first | decide | (rw [e1]; decide))); intro yy; clear yy) | decide | omega) | (with_reducible refine frc_bytesL (by first | omega | decide) ?_) | (with_reducible refine frc_bytesM (by first | omega | decide) ?_))
    refine ⟨.a (.c (.bool true)), [[.past W ms], svB b], ⟨[0, 1], ⟨rfl, rfl, rfl⟩, ?_⟩, rfl⟩
    (repeat first | exact trivial | refine ent1 ?_)
    refine eqC_bts ?_
    (repeat first | exact trivial | refine ent1 ?_)
  have hb : b.Ok := hbf.ok (by omega)
  have e1 : decide ((400 : Int) < (b.l.length : Int)) = false := decide_eq_false (by omega)
  (repeat first | (refine And.intro ?_ ?_; first | exact rfl | ((exact fun h => absurd h (by first | decide | (rw [e1]; decide))); intro yy; clear yy) | (rotate_left; (exact fun h => absurd h (by first | decide | (rw [e1]; decide))); intro yy; clear yy) | decide | omega) | (with_reducible refine frc_bytesL (by first | omega | decide) ?_) | (with_reducible refine frc_bytesM (by first | omega | decide) ?_))
  refine call_same (fn_light h) [0] rfl (by (repeat first | exact trivial | refine ent1 ?_)) (by (repeat first | exact trivial | refine ent1 ?_)) (fun _ _ => trivial) ?_
  rintro x hs' ⟨rfl, rfl⟩
  cases hL : lightE es with
  | false =>
    (repeat first | (refine And.intro ?_ ?_; first | exact rfl | ((exact fun h => absurd h (by first | decide | (rw [e1]; decide))); intro yy; clear yy) | (rotate_left; (exact fun h => absurd h (by first | decide | (rw [e1]; decide))); intro yy; clear yy) | decide | omega) | (with_reducible refine frc_bytesL (by first | omega | decide) ?_) | (with_reducible refine frc_bytesM (by first | omega | decide) ?_))
    refine ⟨.a (.c (.bool true)), [[.past W ms], svB b], ⟨[0, 1], ⟨rfl, rfl, rfl⟩, ?_⟩, rfl⟩
    (repeat first | exact trivial | refine ent1 ?_)
    refine eqC_bts ?_
    (repeat first | exact trivial | refine ent1 ?_)
  | true =>
  have hl2 : (∀ e ∈ es, e.N.length ≤ 30 ∧ e.D.length ≤ 100) ∧ es.length ≤ 60 := by
    unfold lightE at hL
    rw [Bool.and_eq_true] at hL
    exact ⟨of_decide_eq_true hL.1, of_decide_eq_true hL.2⟩
  (repeat first | (refine And.intro ?_ ?_; first | exact rfl | ((exact fun h => absurd h (by first | decide | (rw [e1]; decide))); intro yy; clear yy) | (rotate_left; (exact fun h => absurd h (by first | decide | (rw [e1]; decide))); intro yy; clear yy) | decide | omega) | (with_reducible refine frc_bytesL (by first | omega | decide) ?_) | (with_reducible refine frc_bytesM (by first | omega | decide) ?_))
  refine call_past (fn_erowF h hK hl2.1 (by omega)) 0 [] rfl rfl (by (repeat first | exact trivial | refine ent1 ?_)) (by (repeat first | exact trivial | refine ent1 ?_)) (fun _ _ => trivial) (fun x hs hr => ?_) ?_
  · obtain ⟨a', c', W', ms', h1, _, _, rfl⟩ := hr
    exact ⟨W', ms', rfl, h1⟩
  rintro y hs' ⟨aR, cR, W1, ms1, hL1, hrow, rfl, rfl⟩
  obtain ⟨row, hrw⟩ : ∃ row, rowE ks es 0 0#64 = row := ⟨_, rfl⟩
  have hgood : GoodL 0#64 row := by rw [← hrw]; exact (row_good ks es 0 0#64 (by decide)).1
  rw [hrw] at hrow
  have hrl : row.length = n := hrow.len
  have henc := enc_of (es := row) (by omega) hgood
  (repeat first | (refine And.intro ?_ ?_; first | exact rfl | ((exact fun h => absurd h (by first | decide | (rw [e1]; decide))); intro yy; clear yy) | (rotate_left; (exact fun h => absurd h (by first | decide | (rw [e1]; decide))); intro yy; clear yy) | decide | omega) | (with_reducible refine frc_bytesL (by first | omega | decide) ?_) | (with_reducible refine frc_bytesM (by first | omega | decide) ?_))
  obtain ⟨l, hl⟩ : ∃ l, encB row = l := ⟨_, rfl⟩
  have henc : encM row = (l, 0) := by rw [← hl]; exact henc
  have hM0 := henc
  have hlp : 4 ≤ l.length := by
    rw [← hl]; unfold encB; rw [List.length_append]
    have : (magicE).length = 4 := rfl
    omega
  have hl9 : l.length ≤ 12 + 140 * n := by
    have h1 := catE_len hgood
    have h2 : (putL (BitVec.ofNat 64 row.length)).length ≤ 8 := by rw [putL_len]; exact lenN_le _
    have h3 : (magicE).length = 4 := rfl
    rw [← hl]; unfold encB
    rw [List.length_append, List.length_append]
    omega
  refine call_same ((fn_bencode hrow).mono (Res' := fun y hs => ∃ N o c9, o + l.length ≤ N ∧ l.length ≤ c9 ∧ l.length ≤ 1000000 ∧ y = .tup [.c (.sn false 1 0 o l.length c9), .c (.int .i64 0)] ∧ hs = [[.past W1 ms1], [.row N (winF o l.length (L l))]]) (fun x hs hr => ?_)) [0] rfl (by (repeat first | exact trivial | refine ent1 ?_)) (by (repeat first | exact trivial | refine ent1 ?_)) (fun _ _ => trivial) ?_
  · obtain ⟨⟨z, N, o, c9, l'⟩, e, hM, ht, rfl, rfl⟩ := hr.2 (by omega)
    rw [henc] at hM
    obtain ⟨htl, rfl⟩ : l' = l ∧ 0 = e := by simp only [Prod.mk.injEq] at hM; exact ⟨hM.1.symm, hM.2⟩
    subst htl
    cases z with
    | true => have h0 : l' = [] := ht.nil rfl
              rw [h0] at hlp; exact absurd hlp (by decide)
    | false => exact ⟨N, o, c9, ht.fit, ht.cap, ht.small, rfl, rfl⟩
  rintro x hs' ⟨N, o, c9, hfit, hcap9, hsm, rfl, rfl⟩
  have e9 : decide ((0 : Int) ≠ 0) = false := by decide
  (repeat first | (refine And.intro ?_ ?_; first | exact rfl | ((exact fun h => absurd h (by first | decide | (rw [e9]; decide))); intro yy; clear yy) | (rotate_left; (exact fun h => absurd h (by first | decide | (rw [e9]; decide))); intro yy; clear yy) | decide | omega) | (with_reducible refine frc_bytesL (by first | omega | decide) ?_) | (with_reducible refine frc_bytesM (by first | omega | decide) ?_))
  refine sn_btsM (z := false) (N := N) (o := o) (n := l.length) (b := L l) rfl hfit (fun h => by cases h) (fun g hg => ?_)
  refine ⟨⟨Nat.le_refl _, Nat.le_refl _, by show (0 + l.length) * 1 ≤ 140737488355328; omega⟩, fun cT hcT => ?_⟩
  (repeat first | (refine And.intro ?_ ?_; first | exact rfl | ((exact fun h => absurd h (by first | decide | (rw [e9]; decide))); intro yy; clear yy) | (rotate_left; (exact fun h => absurd h (by first | decide | (rw [e9]; decide))); intro yy; clear yy) | decide | omega) | (with_reducible refine frc_bytesL (by first | omega | decide) ?_) | (with_reducible refine frc_bytesM (by first | omega | decide) ?_))
  rw [show ((at_.toNat : Nat) : Int) % ((0 + l.length : Nat) : Int) = ((at_.toNat % l.length : Nat) : Int) by rw [Nat.zero_add]; exact (Int.natCast_emod _ _).symm]
  have hat : at_.toNat % l.length < l.length := Nat.mod_lt _ (by omega)
  obtain ⟨m, hm⟩ : ∃ m, at_.toNat % l.length = m := ⟨_, rfl⟩
  rw [hm] at hat ⊢
  refine And.intro (show (0 : Int) ≤ (m : Int) ∧ (m : Int) < ((0 + l.length : Nat) : Int) by omega) ?_
  (repeat first | (refine And.intro ?_ ?_; first | exact rfl | ((exact fun h => absurd h (by first | decide | (rw [e9]; decide))); intro yy; clear yy) | (rotate_left; (exact fun h => absurd h (by first | decide | (rw [e9]; decide))); intro yy; clear yy) | decide | omega) | (with_reducible refine frc_bytesL (by first | omega | decide) ?_) | (with_reducible refine frc_bytesM (by first | omega | decide) ?_))
  have hscT : scale cT (0 + 1) = cT := by rw [scale_eq, Nat.zero_add, Nat.mul_one]
  refine And.intro (show ((m : Nat) : Int).toNat + 0 < scale cT (0 + 1) by omega) ?_
  have gT : ∀ i, i < l.length → appF (nthC []) 0 (scale 0 (0 + 1)) (scale l.length (0 + 1)) g i = .w8 (L l i) := fun i hi => app_row (l := []) (m := l) (n := 0) (k := l.length) rfl rfl (fun i hi => absurd hi (by omega)) hg i (by omega)
  refine frc_eq (y := .w8 (L l m)) (gT _ (by omega)) ?_
  refine And.intro (show (8#8 : BitVec 8) ≠ 0 by decide) ?_
  (repeat first | (refine And.intro ?_ ?_; first | exact rfl | ((exact fun h => absurd h (by first | decide | (rw [e9]; decide))); intro yy; clear yy) | (rotate_left; (exact fun h => absurd h (by first | decide | (rw [e9]; decide))); intro yy; clear yy) | decide | omega) | (with_reducible refine frc_bytesL (by first | omega | decide) ?_) | (with_reducible refine frc_bytesM (by first | omega | decide) ?_))
  refine And.intro (show ((m : Nat) : Int).toNat + 0 < scale cT (0 + 1) by omega) ?_
  (repeat first | (refine And.intro ?_ ?_; first | exact rfl | ((exact fun h => absurd h (by first | decide | (rw [e9]; decide))); intro yy; clear yy) | (rotate_left; (exact fun h => absurd h (by first | decide | (rw [e9]; decide))); intro yy; clear yy) | decide | omega) | (with_reducible refine frc_bytesL (by first | omega | decide) ?_) | (with_reducible refine frc_bytesM (by first | omega | decide) ?_))
  rw [show ((at_.toNat : Nat) : Int) % ((l.length : Nat) : Int) = ((m : Nat) : Int) by rw [← hm]; exact (Int.natCast_emod _ _).symm]
  (repeat first | (refine And.intro ?_ ?_; first | exact rfl | ((exact fun h => absurd h (by first | decide | (rw [e9]; decide))); intro yy; clear yy) | (rotate_left; (exact fun h => absurd h (by first | decide | (rw [e9]; decide))); intro yy; clear yy) | decide | omega) | (with_reducible refine frc_bytesL (by first | omega | decide) ?_) | (with_reducible refine frc_bytesM (by first | omega | decide) ?_))
  refine sn_bts rfl hb.fit (fun h => by rw [hb.nil h]; rfl) (fun gb hgb => ?_)
  refine ⟨⟨Nat.le_refl _, Nat.le_refl _, by show (4 + b.l.length) * 1 ≤ 140737488355328; omega⟩, fun cD hcD => ?_⟩
  (repeat first | (refine And.intro ?_ ?_; first | exact rfl | ((exact fun h => absurd h (by first | decide | (rw [e9]; decide))); intro yy; clear yy) | (rotate_left; (exact fun h => absurd h (by first | decide | (rw [e9]; decide))); intro yy; clear yy) | decide | omega) | (with_reducible refine frc_bytesL (by first | omega | decide) ?_) | (with_reducible refine frc_bytesM (by first | omega | decide) ?_))
  refine sn_btsM (z := false) (N := N) (o := o) (n := l.length) (b := L l) rfl hfit (fun h => by cases h) (fun gm hgm => ?_)
  refine ⟨⟨Nat.le_refl _, Nat.le_refl _, by show (0 + l.length) * 1 ≤ 140737488355328; omega⟩, fun cM hcM => ?_⟩
  refine ⟨by show 0 + 1 ≤ 1; decide, ?_⟩
  refine ⟨⟨hcM, by show 0 + cM ≤ cM; omega, by show (0 + l.length + 1) * 1 ≤ 140737488355328; omega⟩, fun cQ hcQ => ?_⟩
  (repeat first | (refine And.intro ?_ ?_; first | exact rfl | ((exact fun h => absurd h (by first | decide | (rw [e9]; decide))); intro yy; clear yy) | (rotate_left; (exact fun h => absurd h (by first | decide | (rw [e9]; decide))); intro yy; clear yy) | decide | omega) | (with_reducible refine frc_bytesL (by first | omega | decide) ?_) | (with_reducible refine frc_bytesM (by first | omega | decide) ?_))
  obtain ⟨sG, hG⟩ : ∃ s : Sl, s = ⟨false, N, o, c9, l⟩ := ⟨_, rfl⟩
  have hGl : sG.l = l := by rw [hG]
  have oG : sG.Ok := by rw [hG]; exact ⟨hfit, hcap9, (fun h => by cases h), hsm⟩
  obtain ⟨sC, hC⟩ : ∃ s : Sl, s = ⟨sG.z, sG.N, sG.o, sG.c, l.take m⟩ := ⟨_, rfl⟩
  have hcl : sC.l = l.take m := by rw [hC]
  have hcn : sC.l.length = m := by rw [hcl, List.length_take]; omega
  have hcle : sC.l.length ≤ sG.l.length := by rw [hcn, hGl]; omega
  have hcL : ∀ q, q < sC.l.length → L sC.l q = L sG.l q := fun q hq => by rw [hcl, hGl, take_LE (by omega)]
  have hcz : sC.z = sG.z ∧ sC.N = sG.N ∧ sC.o = sG.o ∧ sC.l.length ≤ sG.l.length ∧ ∀ q, q < sC.l.length → L sC.l q = L sG.l q := ⟨by rw [hC], by rw [hC], by rw [hC], hcle, hcL⟩
  have oC : sC.Ok := by
    have h1 := oG.fit
    have h2 := oG.cap
    have h3 := oG.small
    exact ⟨by rw [hcz.2.2.1, hcz.2.1]; omega, by rw [show sC.c = sG.c by rw [hC]]; omega, (fun h => by rw [hC] at h; dsimp only at h; rw [hG] at h; cases h), by omega⟩
  obtain ⟨D, hD⟩ : ∃ D : Bs, D = [66#8, 73#8, 78#8, 49#8] ++ b.l := ⟨_, rfl⟩
  have hDl : D.length = 4 + b.l.length := by rw [hD, List.length_append]; rfl
  have rD : ∀ i, i < D.length → appF (nthC [.w8 66#8, .w8 73#8, .w8 78#8, .w8 49#8]) 0 (scale 4 (0 + 1)) (scale b.l.length (0 + 1)) gb i = .w8 (L D i) := fun i hi => by
    rw [hD]
    refine app_row (l := [66#8, 73#8, 78#8, 49#8]) (m := b.l) (n := 4) (k := b.l.length) rfl rfl (fun i hi => ?_) hgb i (by omega)
    have : i = 0 ∨ i = 1 ∨ i = 2 ∨ i = 3 := by omega
    rcases this with rfl | rfl | rfl | rfl <;> rfl
  obtain ⟨sD, hsD⟩ : ∃ s : Sl, s = ⟨false, cD, 0, cD, D⟩ := ⟨_, rfl⟩
  have oD : sD.Ok := by rw [hsD]; exact own_ok (by omega) (by omega)
  obtain ⟨T, hT⟩ : ∃ T : Bs, T = tab l.length (fun i => if i = m then L l m ^^^ 1#8 <<< (bit % 8#8).toNat else L l i) := ⟨_, rfl⟩
  have hTl : T.length = l.length := by rw [hT, tab_len]
  have rT : ∀ i, i < T.length → upd (appF (nthC []) 0 (scale 0 (0 + 1)) (scale l.length (0 + 1)) g) (((m : Nat) : Int).toNat + 0) (.w8 (L l m ^^^ 1#8 <<< (bit % 8#8).toNat)) i = .w8 (L T i) := fun i hi => by
    rw [hT, L_tab (by omega)]
    unfold upd
    by_cases him : i = m
    · rw [if_pos (by omega), if_pos him]
    · rw [if_neg (by omega), if_neg him]; exact gT i (by omega)
  obtain ⟨sT, hsT⟩ : ∃ s : Sl, s = ⟨false, cT, 0, cT, T⟩ := ⟨_, rfl⟩
  have oT : sT.Ok := by rw [hsT]; exact own_ok (by omega) (by omega)
  have hRl : (l ++ [0#8]).length = 0 + l.length + 1 := by rw [List.length_append, Nat.zero_add]; rfl
  have rQ : ∀ i, i < (l ++ [0#8]).length → appF (appF (nthC []) 0 (scale 0 (0 + 1)) (scale l.length (0 + 1)) gm) 0 (scale (0 + l.length) (0 + 1)) (scale 1 (0 + 1)) (fun q => nthC [.w8 0#8] (q + 0)) i = .w8 (L (l ++ [0#8]) i) := fun i hi => by
    rw [hRl] at hi
    exact app_row (l := l) (m := [0#8]) (n := 0 + l.length) (k := 1) (Nat.zero_add _).symm rfl (fun i hi => app_row (l := []) (m := l) (n := 0) (k := l.length) rfl rfl (fun i hi => absurd hi (by omega)) hgm i hi) (fun q hq => one_row rfl q hq) i hi
  obtain ⟨sQ, hsQ⟩ : ∃ s : Sl, s = ⟨false, cQ, 0, cQ, l ++ [0#8]⟩ := ⟨_, rfl⟩
  have oQ : sQ.Ok := by rw [hsQ]; exact own_ok (by omega) (by omega)
  refine .inl ⟨World × List Nat × Nat, fun x => ⟨[.any, .any, .any, .any, .any, .any, .any, .any, .any, .any, .any, .a (.c (svC 2 sG)), .any, .any, .a (.c (svC 2 sC)), .any, .any, .any, .any, .any, .any, .any, .any, .any, .any, .any, .any, .any, .any, .any, .any, .any, .any, .any, .any, .any, .any, .any, .any, .any, .any, .any, .any, .any, .any, .any, .any, .any, .any, .any, .any, .any, .any, .any, .any, .any, .any, .any, .any, .any, .any, .any, .any, .any, .any, .any, .any, .any, .any, .any, .any, .any, .any, .any, .any, .any, .any, .any, .any, .a (.c (.sl 6 0 0 5 5)), .a (.c (.int .i64 (5))), .a (.c (.int .i64 ((x.2.2 : Nat)))), .any, .any, .any, .any, .any, .any, .any, .any, .any, .any, .any, .any, .any, .any, .any, .any, .any, .any, .any, .any, .any, .any, .any, .any, .any, .any, .any, .any, .any, .any, .any, .any, .any, .any, .any, .any, .any, .any, .any, .any, .any, .any, .any, .any, .any, .any, .any, .any], [[.past x.1 x.2.1], svB b, svB sG, svB sD, svB sT, svB sQ, [.row 5 (nthC [svC 1 b, svC 3 sD, svC 4 sT, svC 2 sC, svC 5 sQ])]]⟩, fun x => Later W1 ms1 x.1 x.2.1 ∧ x.2.2 ≤ 5, fun x => 5 - x.2.2, ⟨(W1, ms1, 0), [0, 1, 2, 6, 4, 10, 11], ⟨⟨rfl, rfl, rfl⟩, ?_⟩, Later.refl _ _, Nat.zero_le _⟩, fun x => ?_⟩
  · subst hG
    subst hC
    subst hsD
    subst hsT
    subst hsQ
    (repeat first | exact trivial | refine eqC_bts ?_ | refine ent1 ?_)
    refine ⟨(show (if c9 = 0 then o else o + 0 * 1) = o by split <;> omega), (show ((m : Nat) : Int).toNat - 0 = (l.take m).length by rw [List.length_take]; omega), Nat.sub_zero _, ?_⟩
    (repeat first | exact trivial | refine eqC_bts ?_ | refine ent1 ?_)
    refine ⟨fun j hj => eqC_win0 (fun i hi => rD i hi) j, ?_⟩
    (repeat first | exact trivial | refine eqC_bts ?_ | refine ent1 ?_)
    refine ⟨fun j hj => eqC_win0 (fun i hi => rT i hi) j, ?_⟩
    (repeat first | exact trivial | refine eqC_bts ?_ | refine ent1 ?_)
    refine ⟨fun j hj => eqC_win0 (fun i hi => rQ i hi) j, ?_⟩
    (repeat first | exact trivial | refine eqC_bts ?_ | refine ent1 ?_)
    refine ⟨fun j hj => ?_, ?_⟩
    · have : j = 0 ∨ j = 1 ∨ j = 2 ∨ j = 3 ∨ j = 4 := by omega
      rcases this with rfl | rfl | rfl | rfl | rfl
      · (repeat first | exact trivial | refine eqC_bts ?_ | refine ent1 ?_)
      · (repeat first | exact trivial | refine eqC_bts ?_ | refine ent1 ?_)
        exact ⟨hDl.symm, rfl, trivial⟩
      · (repeat first | exact trivial | refine eqC_bts ?_ | refine ent1 ?_)
        exact ⟨by rw [Nat.zero_add]; exact hTl.symm, rfl, trivial⟩
      · (repeat first | exact trivial | refine eqC_bts ?_ | refine ent1 ?_)
        exact ⟨(show (if c9 = 0 then o else o + 0 * 1) = o by split <;> omega), (show ((m : Nat) : Int).toNat - 0 = (l.take m).length by rw [List.length_take]; omega), Nat.sub_zero _, trivial⟩
      · (repeat first | exact trivial | refine eqC_bts ?_ | refine ent1 ?_)
        exact ⟨hRl.symm, rfl, trivial⟩
    (repeat first | exact trivial | refine eqC_bts ?_ | refine ent1 ?_)
  obtain ⟨W2, ms2, i⟩ := x
  rintro ⟨hL2, hi⟩
  dsimp only at hL2 hi ⊢
  have hGs : sG.l.length ≤ 9000 := by rw [hGl]; omega
  clear rD rT rQ gT hg hgm hgb
  obtain rfl | rfl | rfl | rfl | rfl | rfl : i = 0 ∨ i = 1 ∨ i = 2 ∨ i = 3 ∨ i = 4 ∨ i = 5 := by omega
  · (repeat first | (refine And.intro ?_ ?_; first | exact rfl | ((exact fun h => absurd h (by first | decide)); intro yy; clear yy) | (rotate_left; (exact fun h => absurd h (by first | decide)); intro yy; clear yy) | decide | omega) | (with_reducible refine frc_bytesL (by first | omega | decide) ?_) | (with_reducible refine frc_bytesM (by first | omega | decide) ?_))
    refine call_past (fn_bdecode (W := W2) (ms := ms2) b hb) 0 [1] rfl rfl (by (repeat first | exact trivial | refine ent1 ?_)) (by (repeat first | exact trivial | refine eqC_bts ?_ | refine ent1 ?_)) (fun _ _ => trivial) (fun x hs hr => ?_) ?_
    · obtain ⟨es2, a2, n2, c2, e2, W3, ms3, _, hL3, _, _, rfl⟩ := hr
      exact ⟨W3, ms3, rfl, hL3⟩
    rintro y hs' ⟨es2, a2, n2, c2, e2, W3, ms3, hD2, hL3, hE3, rfl, rfl⟩
    by_cases he : e2 = 0
    · subst he
      have henc2 := enc_dec hD2
      obtain ⟨hl48, -, -⟩ := enc_back henc2
      have hn2 : n2 ≤ 2048 := by rw [← hE3.len]; exact hl48
      (repeat first | (refine And.intro ?_ ?_; first | exact rfl | ((exact fun h => absurd h (by first | decide | (rw [e9]; decide))); intro yy; clear yy) | (rotate_left; (exact fun h => absurd h (by first | decide | (rw [e9]; decide))); intro yy; clear yy) | decide | omega) | (with_reducible refine frc_bytesL (by first | omega | decide) ?_) | (with_reducible refine frc_bytesM (by first | omega | decide) ?_))
      refine call_same ((fn_bencode hE3).mono (Res' := fun y hs => ∃ t : Sl, t.l = b.l ∧ t.Ok ∧ y = .tup [.c (svC 1 t), .c (.int .i64 0)] ∧ hs = [[.past W3 ms3], svB t]) (fun x hs hr => ?_)) [0] rfl (by (repeat first | exact trivial | refine ent1 ?_)) (by (repeat first | exact trivial | refine ent1 ?_)) (fun _ _ => trivial) ?_
      · obtain ⟨t, e, hM, ht, rfl, rfl⟩ := hr.2 hn2
        rw [henc2] at hM
        simp only [Prod.mk.injEq] at hM
        obtain ⟨h1, rfl⟩ := hM
        exact ⟨t, h1.symm, ht, rfl, rfl⟩
      rintro x hs' ⟨t, htl, ht, rfl, rfl⟩
      (repeat first | (refine And.intro ?_ ?_; first | exact rfl | ((exact fun h => absurd h (by first | decide | (rw [e9]; decide))); intro yy; clear yy) | (rotate_left; (exact fun h => absurd h (by first | decide | (rw [e9]; decide))); intro yy; clear yy) | decide | omega) | (with_reducible refine frc_bytesL (by first | omega | decide) ?_) | (with_reducible refine frc_bytesM (by first | omega | decide) ?_))
      refine sn_btsM rfl ht.fit (fun h => by rw [ht.nil h]; rfl) (fun g hg => ?_)
      refine ⟨U8 t.l, ⟨U8_len _, fun q hq => by rw [hg q hq, U8_get _ _ hq]⟩, ?_⟩
      (repeat first | (refine And.intro ?_ ?_; first | exact rfl | ((exact fun h => absurd h (by first | decide | (rw [e9]; decide))); intro yy; clear yy) | (rotate_left; (exact fun h => absurd h (by first | decide | (rw [e9]; decide))); intro yy; clear yy) | decide | omega) | (with_reducible refine frc_bytesL (by first | omega | decide) ?_) | (with_reducible refine frc_bytesM (by first | omega | decide) ?_))
      refine sn_bts rfl hb.fit (fun h => by rw [hb.nil h]; rfl) (fun g2 hg2 => ?_)
      refine ⟨U8 b.l, ⟨U8_len _, fun q hq => by rw [hg2 q hq, U8_get _ _ hq]⟩, ?_⟩
      have hcmp : (!decide (U8 t.l = U8 b.l)) = false := by rw [htl, decide_eq_true rfl]; rfl
      (repeat first | (refine And.intro ?_ ?_; first | exact rfl | ((exact fun h => absurd h (by first | decide | (rw [e9]; decide) | (rw [hcmp]; decide))); intro yy; clear yy) | (rotate_left; (exact fun h => absurd h (by first | decide | (rw [e9]; decide) | (rw [hcmp]; decide))); intro yy; clear yy) | decide | omega) | (with_reducible refine frc_bytesL (by first | omega | decide) ?_) | (with_reducible refine frc_bytesM (by first | omega | decide) ?_))
      refine ⟨(W3, ms3, 0 + 1), [0, 1, 2, 3, 4, 5, 6], ⟨⟨rfl, rfl, rfl⟩, ?_⟩, ⟨hL2.trans hL3, (show 0 + 1 ≤ 5 by decide)⟩, (show 5 - (0 + 1) < 5 - 0 by decide)⟩
      (repeat first | exact trivial | refine eqC_bts ?_ | refine ent1 ?_)
      refine ⟨eqC_row5 b sD sT sC sQ, ?_⟩
      (repeat first | exact trivial | refine eqC_bts ?_ | refine ent1 ?_)
    · obtain rfl := dec_err hD2 he
      have hn2 : n2 = 0 := hE3.len.symm
      subst hn2
      have k1 : decide (e2 ≠ 0) = true := decide_eq_true he
      (repeat first | (refine And.intro ?_ ?_; first | exact rfl | ((exact fun h => absurd h (by first | decide | (rw [k1]; decide))); intro yy; clear yy) | (rotate_left; (exact fun h => absurd h (by first | decide | (rw [k1]; decide))); intro yy; clear yy) | decide | omega) | (with_reducible refine frc_bytesL (by first | omega | decide) ?_) | (with_reducible refine frc_bytesM (by first | omega | decide) ?_))
      refine ⟨(W3, ms3, 0 + 1), [0, 1, 2, 3, 4, 5, 6], ⟨⟨rfl, rfl, rfl⟩, ?_⟩, ⟨hL2.trans hL3, (show 0 + 1 ≤ 5 by decide)⟩, (show 5 - (0 + 1) < 5 - 0 by decide)⟩
      (repeat first | exact trivial | refine eqC_bts ?_ | refine ent1 ?_)
      refine ⟨eqC_row5 b sD sT sC sQ, ?_⟩
      (repeat first | exact trivial | refine eqC_bts ?_ | refine ent1 ?_)
  · (repeat first | (refine And.intro ?_ ?_; first | exact rfl | ((exact fun h => absurd h (by first | decide)); intro yy; clear yy) | (rotate_left; (exact fun h => absurd h (by first | decide)); intro yy; clear yy) | decide | omega) | (with_reducible refine frc_bytesL (by first | omega | decide) ?_) | (with_reducible refine frc_bytesM (by first | omega | decide) ?_))
    refine call_past (fn_bdecode (W := W2) (ms := ms2) sD oD) 0 [3] rfl rfl (by (repeat first | exact trivial | refine ent1 ?_)) (by (repeat first | exact trivial | refine eqC_bts ?_ | refine ent1 ?_)) (fun _ _ => trivial) (fun x hs hr => ?_) ?_
    · obtain ⟨es2, a2, n2, c2, e2, W3, ms3, _, hL3, _, _, rfl⟩ := hr
      exact ⟨W3, ms3, rfl, hL3⟩
    rintro y hs' ⟨es2, a2, n2, c2, e2, W3, ms3, hD2, hL3, hE3, rfl, rfl⟩
    by_cases he : e2 = 0
    · subst he
      have henc2 := enc_dec hD2
      obtain ⟨hl48, -, -⟩ := enc_back henc2
      have hn2 : n2 ≤ 2048 := by rw [← hE3.len]; exact hl48
      (repeat first | (refine And.intro ?_ ?_; first | exact rfl | ((exact fun h => absurd h (by first | decide | (rw [e9]; decide))); intro yy; clear yy) | (rotate_left; (exact fun h => absurd h (by first | decide | (rw [e9]; decide))); intro yy; clear yy) | decide | omega) | (with_reducible refine frc_bytesL (by first | omega | decide) ?_) | (with_reducible refine frc_bytesM (by first | omega | decide) ?_))
      refine call_same ((fn_bencode hE3).mono (Res' := fun y hs => ∃ t : Sl, t.l = sD.l ∧ t.Ok ∧ y = .tup [.c (svC 1 t), .c (.int .i64 0)] ∧ hs = [[.past W3 ms3], svB t]) (fun x hs hr => ?_)) [0] rfl (by (repeat first | exact trivial | refine ent1 ?_)) (by (repeat first | exact trivial | refine ent1 ?_)) (fun _ _ => trivial) ?_
      · obtain ⟨t, e, hM, ht, rfl, rfl⟩ := hr.2 hn2
        rw [henc2] at hM
        simp only [Prod.mk.injEq] at hM
        obtain ⟨h1, rfl⟩ := hM
        exact ⟨t, h1.symm, ht, rfl, rfl⟩
      rintro x hs' ⟨t, htl, ht, rfl, rfl⟩
      (repeat first | (refine And.intro ?_ ?_; first | exact rfl | ((exact fun h => absurd h (by first | decide | (rw [e9]; decide))); intro yy; clear yy) | (rotate_left; (exact fun h => absurd h (by first | decide | (rw [e9]; decide))); intro yy; clear yy) | decide | omega) | (with_reducible refine frc_bytesL (by first | omega | decide) ?_) | (with_reducible refine frc_bytesM (by first | omega | decide) ?_))
      refine sn_btsM rfl ht.fit (fun h => by rw [ht.nil h]; rfl) (fun g hg => ?_)
      refine ⟨U8 t.l, ⟨U8_len _, fun q hq => by rw [hg q hq, U8_get _ _ hq]⟩, ?_⟩
      (repeat first | (refine And.intro ?_ ?_; first | exact rfl | ((exact fun h => absurd h (by first | decide | (rw [e9]; decide))); intro yy; clear yy) | (rotate_left; (exact fun h => absurd h (by first | decide | (rw [e9]; decide))); intro yy; clear yy) | decide | omega) | (with_reducible refine frc_bytesL (by first | omega | decide) ?_) | (with_reducible refine frc_bytesM (by first | omega | decide) ?_))
      refine sn_bts rfl oD.fit (fun h => by rw [oD.nil h]; rfl) (fun g2 hg2 => ?_)
      refine ⟨U8 sD.l, ⟨U8_len _, fun q hq => by rw [hg2 q hq, U8_get _ _ hq]⟩, ?_⟩
      have hcmp : (!decide (U8 t.l = U8 sD.l)) = false := by rw [htl, decide_eq_true rfl]; rfl
      (repeat first | (refine And.intro ?_ ?_; first | exact rfl | ((exact fun h => absurd h (by first | decide | (rw [e9]; decide) | (rw [hcmp]; decide))); intro yy; clear yy) | (rotate_left; (exact fun h => absurd h (by first | decide | (rw [e9]; decide) | (rw [hcmp]; decide))); intro yy; clear yy) | decide | omega) | (with_reducible refine frc_bytesL (by first | omega | decide) ?_) | (with_reducible refine frc_bytesM (by first | omega | decide) ?_))
      refine ⟨(W3, ms3, 1 + 1), [0, 1, 2, 3, 4, 5, 6], ⟨⟨rfl, rfl, rfl⟩, ?_⟩, ⟨hL2.trans hL3, (show 1 + 1 ≤ 5 by decide)⟩, (show 5 - (1 + 1) < 5 - 1 by decide)⟩
      (repeat first | exact trivial | refine eqC_bts ?_ | refine ent1 ?_)
      refine ⟨eqC_row5 b sD sT sC sQ, ?_⟩
      (repeat first | exact trivial | refine eqC_bts ?_ | refine ent1 ?_)
    · obtain rfl := dec_err hD2 he
      have hn2 : n2 = 0 := hE3.len.symm
      subst hn2
      have k1 : decide (e2 ≠ 0) = true := decide_eq_true he
      (repeat first | (refine And.intro ?_ ?_; first | exact rfl | ((exact fun h => absurd h (by first | decide | (rw [k1]; decide))); intro yy; clear yy) | (rotate_left; (exact fun h => absurd h (by first | decide | (rw [k1]; decide))); intro yy; clear yy) | decide | omega) | (with_reducible refine frc_bytesL (by first | omega | decide) ?_) | (with_reducible refine frc_bytesM (by first | omega | decide) ?_))
      refine ⟨(W3, ms3, 1 + 1), [0, 1, 2, 3, 4, 5, 6], ⟨⟨rfl, rfl, rfl⟩, ?_⟩, ⟨hL2.trans hL3, (show 1 + 1 ≤ 5 by decide)⟩, (show 5 - (1 + 1) < 5 - 1 by decide)⟩
      (repeat first | exact trivial | refine eqC_bts ?_ | refine ent1 ?_)
      refine ⟨eqC_row5 b sD sT sC sQ, ?_⟩
      (repeat first | exact trivial | refine eqC_bts ?_ | refine ent1 ?_)
  · (repeat first | (refine And.intro ?_ ?_; first | exact rfl | ((exact fun h => absurd h (by first | decide)); intro yy; clear yy) | (rotate_left; (exact fun h => absurd h (by first | decide)); intro yy; clear yy) | decide | omega) | (with_reducible refine frc_bytesL (by first | omega | decide) ?_) | (with_reducible refine frc_bytesM (by first | omega | decide) ?_))
    refine call_past (fn_bdecode (W := W2) (ms := ms2) sT oT) 0 [4] rfl rfl (by (repeat first | exact trivial | refine ent1 ?_)) (by (repeat first | exact trivial | refine eqC_bts ?_ | refine ent1 ?_)) (fun _ _ => trivial) (fun x hs hr => ?_) ?_
    · obtain ⟨es2, a2, n2, c2, e2, W3, ms3, _, hL3, _, _, rfl⟩ := hr
      exact ⟨W3, ms3, rfl, hL3⟩
    rintro y hs' ⟨es2, a2, n2, c2, e2, W3, ms3, hD2, hL3, hE3, rfl, rfl⟩
    by_cases he : e2 = 0
    · subst he
      have henc2 := enc_dec hD2
      obtain ⟨hl48, -, -⟩ := enc_back henc2
      have hn2 : n2 ≤ 2048 := by rw [← hE3.len]; exact hl48
      (repeat first | (refine And.intro ?_ ?_; first | exact rfl | ((exact fun h => absurd h (by first | decide | (rw [e9]; decide))); intro yy; clear yy) | (rotate_left; (exact fun h => absurd h (by first | decide | (rw [e9]; decide))); intro yy; clear yy) | decide | omega) | (with_reducible refine frc_bytesL (by first | omega | decide) ?_) | (with_reducible refine frc_bytesM (by first | omega | decide) ?_))
      refine call_same ((fn_bencode hE3).mono (Res' := fun y hs => ∃ t : Sl, t.l = sT.l ∧ t.Ok ∧ y = .tup [.c (svC 1 t), .c (.int .i64 0)] ∧ hs = [[.past W3 ms3], svB t]) (fun x hs hr => ?_)) [0] rfl (by (repeat first | exact trivial | refine ent1 ?_)) (by (repeat first | exact trivial | refine ent1 ?_)) (fun _ _ => trivial) ?_
      · obtain ⟨t, e, hM, ht, rfl, rfl⟩ := hr.2 hn2
        rw [henc2] at hM
        simp only [Prod.mk.injEq] at hM
        obtain ⟨h1, rfl⟩ := hM
        exact ⟨t, h1.symm, ht, rfl, rfl⟩
      rintro x hs' ⟨t, htl, ht, rfl, rfl⟩
      (repeat first | (refine And.intro ?_ ?_; first | exact rfl | ((exact fun h => absurd h (by first | decide | (rw [e9]; decide))); intro yy; clear yy) | (rotate_left; (exact fun h => absurd h (by first | decide | (rw [e9]; decide))); intro yy; clear yy) | decide | omega) | (with_reducible refine frc_bytesL (by first | omega | decide) ?_) | (with_reducible refine frc_bytesM (by first | omega | decide) ?_))
      refine sn_btsM rfl ht.fit (fun h => by rw [ht.nil h]; rfl) (fun g hg => ?_)
      refine ⟨U8 t.l, ⟨U8_len _, fun q hq => by rw [hg q hq, U8_get _ _ hq]⟩, ?_⟩
      (repeat first | (refine And.intro ?_ ?_; first | exact rfl | ((exact fun h => absurd h (by first | decide | (rw [e9]; decide))); intro yy; clear yy) | (rotate_left; (exact fun h => absurd h (by first | decide | (rw [e9]; decide))); intro yy; clear yy) | decide | omega) | (with_reducible refine frc_bytesL (by first | omega | decide) ?_) | (with_reducible refine frc_bytesM (by first | omega | decide) ?_))
      refine sn_bts rfl oT.fit (fun h => by rw [oT.nil h]; rfl) (fun g2 hg2 => ?_)
      refine ⟨U8 sT.l, ⟨U8_len _, fun q hq => by rw [hg2 q hq, U8_get _ _ hq]⟩, ?_⟩
      have hcmp : (!decide (U8 t.l = U8 sT.l)) = false := by rw [htl, decide_eq_true rfl]; rfl
      (repeat first | (refine And.intro ?_ ?_; first | exact rfl | ((exact fun h => absurd h (by first | decide | (rw [e9]; decide) | (rw [hcmp]; decide))); intro yy; clear yy) | (rotate_left; (exact fun h => absurd h (by first | decide | (rw [e9]; decide) | (rw [hcmp]; decide))); intro yy; clear yy) | decide | omega) | (with_reducible refine frc_bytesL (by first | omega | decide) ?_) | (with_reducible refine frc_bytesM (by first | omega | decide) ?_))
      refine ⟨(W3, ms3, 2 + 1), [0, 1, 2, 3, 4, 5, 6], ⟨⟨rfl, rfl, rfl⟩, ?_⟩, ⟨hL2.trans hL3, (show 2 + 1 ≤ 5 by decide)⟩, (show 5 - (2 + 1) < 5 - 2 by decide)⟩
      (repeat first | exact trivial | refine eqC_bts ?_ | refine ent1 ?_)
      refine ⟨eqC_row5 b sD sT sC sQ, ?_⟩
      (repeat first | exact trivial | refine eqC_bts ?_ | refine ent1 ?_)
    · obtain rfl := dec_err hD2 he
      have hn2 : n2 = 0 := hE3.len.symm
      subst hn2
      have k1 : decide (e2 ≠ 0) = true := decide_eq_true he
      (repeat first | (refine And.intro ?_ ?_; first | exact rfl | ((exact fun h => absurd h (by first | decide | (rw [k1]; decide))); intro yy; clear yy) | (rotate_left; (exact fun h => absurd h (by first | decide | (rw [k1]; decide))); intro yy; clear yy) | decide | omega) | (with_reducible refine frc_bytesL (by first | omega | decide) ?_) | (with_reducible refine frc_bytesM (by first | omega | decide) ?_))
      refine ⟨(W3, ms3, 2 + 1), [0, 1, 2, 3, 4, 5, 6], ⟨⟨rfl, rfl, rfl⟩, ?_⟩, ⟨hL2.trans hL3, (show 2 + 1 ≤ 5 by decide)⟩, (show 5 - (2 + 1) < 5 - 2 by decide)⟩
      (repeat first | exact trivial | refine eqC_bts ?_ | refine ent1 ?_)
      refine ⟨eqC_row5 b sD sT sC sQ, ?_⟩
      (repeat first | exact trivial | refine eqC_bts ?_ | refine ent1 ?_)
  · (repeat first | (refine And.intro ?_ ?_; first | exact rfl | ((exact fun h => absurd h (by first | decide)); intro yy; clear yy) | (rotate_left; (exact fun h => absurd h (by first | decide)); intro yy; clear yy) | decide | omega) | (with_reducible refine frc_bytesL (by first | omega | decide) ?_) | (with_reducible refine frc_bytesM (by first | omega | decide) ?_))
    refine call_past (fn_bdecode (W := W2) (ms := ms2) sC oC) 0 [2] rfl rfl (by (repeat first | exact trivial | refine ent1 ?_)) (by (repeat first | exact trivial | refine ent1 ?_); refine eqC_cut hcz ?_; (repeat first | exact trivial | refine eqC_bts ?_ | refine ent1 ?_)) (fun _ _ => trivial) (fun x hs hr => ?_) ?_
    · obtain ⟨es2, a2, n2, c2, e2, W3, ms3, _, hL3, _, _, rfl⟩ := hr
      exact ⟨W3, ms3, rfl, hL3⟩
    rintro y hs' ⟨es2, a2, n2, c2, e2, W3, ms3, hD2, hL3, hE3, rfl, rfl⟩
    by_cases he : e2 = 0
    · subst he
      have henc2 := enc_dec hD2
      obtain ⟨hl48, -, -⟩ := enc_back henc2
      have hn2 : n2 ≤ 2048 := by rw [← hE3.len]; exact hl48
      (repeat first | (refine And.intro ?_ ?_; first | exact rfl | ((exact fun h => absurd h (by first | decide | (rw [e9]; decide))); intro yy; clear yy) | (rotate_left; (exact fun h => absurd h (by first | decide | (rw [e9]; decide))); intro yy; clear yy) | decide | omega) | (with_reducible refine frc_bytesL (by first | omega | decide) ?_) | (with_reducible refine frc_bytesM (by first | omega | decide) ?_))
      refine call_same ((fn_bencode hE3).mono (Res' := fun y hs => ∃ t : Sl, t.l = sC.l ∧ t.Ok ∧ y = .tup [.c (svC 1 t), .c (.int .i64 0)] ∧ hs = [[.past W3 ms3], svB t]) (fun x hs hr => ?_)) [0] rfl (by (repeat first | exact trivial | refine ent1 ?_)) (by (repeat first | exact trivial | refine ent1 ?_)) (fun _ _ => trivial) ?_
      · obtain ⟨t, e, hM, ht, rfl, rfl⟩ := hr.2 hn2
        rw [henc2] at hM
        simp only [Prod.mk.injEq] at hM
        obtain ⟨h1, rfl⟩ := hM
        exact ⟨t, h1.symm, ht, rfl, rfl⟩
      rintro x hs' ⟨t, htl, ht, rfl, rfl⟩
      (repeat first | (refine And.intro ?_ ?_; first | exact rfl | ((exact fun h => absurd h (by first | decide | (rw [e9]; decide))); intro yy; clear yy) | (rotate_left; (exact fun h => absurd h (by first | decide | (rw [e9]; decide))); intro yy; clear yy) | decide | omega) | (with_reducible refine frc_bytesL (by first | omega | decide) ?_) | (with_reducible refine frc_bytesM (by first | omega | decide) ?_))
      refine sn_btsM rfl ht.fit (fun h => by rw [ht.nil h]; rfl) (fun g hg => ?_)
      refine ⟨U8 t.l, ⟨U8_len _, fun q hq => by rw [hg q hq, U8_get _ _ hq]⟩, ?_⟩
      (repeat first | (refine And.intro ?_ ?_; first | exact rfl | ((exact fun h => absurd h (by first | decide | (rw [e9]; decide))); intro yy; clear yy) | (rotate_left; (exact fun h => absurd h (by first | decide | (rw [e9]; decide))); intro yy; clear yy) | decide | omega) | (with_reducible refine frc_bytesL (by first | omega | decide) ?_) | (with_reducible refine frc_bytesM (by first | omega | decide) ?_))
      refine sn_cut2 oG hcz rfl (fun g2 hg2 => ?_)
      refine ⟨U8 sC.l, ⟨U8_len _, fun q hq => by rw [hg2 q hq, U8_get _ _ hq]⟩, ?_⟩
      have hcmp : (!decide (U8 t.l = U8 sC.l)) = false := by rw [htl, decide_eq_true rfl]; rfl
      (repeat first | (refine And.intro ?_ ?_; first | exact rfl | ((exact fun h => absurd h (by first | decide | (rw [e9]; decide) | (rw [hcmp]; decide))); intro yy; clear yy) | (rotate_left; (exact fun h => absurd h (by first | decide | (rw [e9]; decide) | (rw [hcmp]; decide))); intro yy; clear yy) | decide | omega) | (with_reducible refine frc_bytesL (by first | omega | decide) ?_) | (with_reducible refine frc_bytesM (by first | omega | decide) ?_))
      refine ⟨(W3, ms3, 3 + 1), [0, 1, 2, 3, 4, 5, 6], ⟨⟨rfl, rfl, rfl⟩, ?_⟩, ⟨hL2.trans hL3, (show 3 + 1 ≤ 5 by decide)⟩, (show 5 - (3 + 1) < 5 - 3 by decide)⟩
      (repeat first | exact trivial | refine eqC_bts ?_ | refine ent1 ?_)
      refine ⟨eqC_row5 b sD sT sC sQ, ?_⟩
      (repeat first | exact trivial | refine eqC_bts ?_ | refine ent1 ?_)
    · obtain rfl := dec_err hD2 he
      have hn2 : n2 = 0 := hE3.len.symm
      subst hn2
      have k1 : decide (e2 ≠ 0) = true := decide_eq_true he
      (repeat first | (refine And.intro ?_ ?_; first | exact rfl | ((exact fun h => absurd h (by first | decide | (rw [k1]; decide))); intro yy; clear yy) | (rotate_left; (exact fun h => absurd h (by first | decide | (rw [k1]; decide))); intro yy; clear yy) | decide | omega) | (with_reducible refine frc_bytesL (by first | omega | decide) ?_) | (with_reducible refine frc_bytesM (by first | omega | decide) ?_))
      refine ⟨(W3, ms3, 3 + 1), [0, 1, 2, 3, 4, 5, 6], ⟨⟨rfl, rfl, rfl⟩, ?_⟩, ⟨hL2.trans hL3, (show 3 + 1 ≤ 5 by decide)⟩, (show 5 - (3 + 1) < 5 - 3 by decide)⟩
      (repeat first | exact trivial | refine eqC_bts ?_ | refine ent1 ?_)
      refine ⟨eqC_row5 b sD sT sC sQ, ?_⟩
      (repeat first | exact trivial | refine eqC_bts ?_ | refine ent1 ?_)
  · (repeat first | (refine And.intro ?_ ?_; first | exact rfl | ((exact fun h => absurd h (by first | decide)); intro yy; clear yy) | (rotate_left; (exact fun h => absurd h (by first | decide)); intro yy; clear yy) | decide | omega) | (with_reducible refine frc_bytesL (by first | omega | decide) ?_) | (with_reducible refine frc_bytesM (by first | omega | decide) ?_))
    refine call_past (fn_bdecode (W := W2) (ms := ms2) sQ oQ) 0 [5] rfl rfl (by (repeat first | exact trivial | refine ent1 ?_)) (by (repeat first | exact trivial | refine eqC_bts ?_ | refine ent1 ?_)) (fun _ _ => trivial) (fun x hs hr => ?_) ?_
    · obtain ⟨es2, a2, n2, c2, e2, W3, ms3, _, hL3, _, _, rfl⟩ := hr
      exact ⟨W3, ms3, rfl, hL3⟩
    rintro y hs' ⟨es2, a2, n2, c2, e2, W3, ms3, hD2, hL3, hE3, rfl, rfl⟩
    by_cases he : e2 = 0
    · subst he
      have henc2 := enc_dec hD2
      obtain ⟨hl48, -, -⟩ := enc_back henc2
      have hn2 : n2 ≤ 2048 := by rw [← hE3.len]; exact hl48
      (repeat first | (refine And.intro ?_ ?_; first | exact rfl | ((exact fun h => absurd h (by first | decide | (rw [e9]; decide))); intro yy; clear yy) | (rotate_left; (exact fun h => absurd h (by first | decide | (rw [e9]; decide))); intro yy; clear yy) | decide | omega) | (with_reducible refine frc_bytesL (by first | omega | decide) ?_) | (with_reducible refine frc_bytesM (by first | omega | decide) ?_))
      refine call_same ((fn_bencode hE3).mono (Res' := fun y hs => ∃ t : Sl, t.l = sQ.l ∧ t.Ok ∧ y = .tup [.c (svC 1 t), .c (.int .i64 0)] ∧ hs = [[.past W3 ms3], svB t]) (fun x hs hr => ?_)) [0] rfl (by (repeat first | exact trivial | refine ent1 ?_)) (by (repeat first | exact trivial | refine ent1 ?_)) (fun _ _ => trivial) ?_
      · obtain ⟨t, e, hM, ht, rfl, rfl⟩ := hr.2 hn2
        rw [henc2] at hM
        simp only [Prod.mk.injEq] at hM
        obtain ⟨h1, rfl⟩ := hM
        exact ⟨t, h1.symm, ht, rfl, rfl⟩
      rintro x hs' ⟨t, htl, ht, rfl, rfl⟩
      (repeat first | (refine And.intro ?_ ?_; first | exact rfl | ((exact fun h => absurd h (by first | decide | (rw [e9]; decide))); intro yy; clear yy) | (rotate_left; (exact fun h => absurd h (by first | decide | (rw [e9]; decide))); intro yy; clear yy) | decide | omega) | (with_reducible refine frc_bytesL (by first | omega | decide) ?_) | (with_reducible refine frc_bytesM (by first | omega | decide) ?_))
      refine sn_btsM rfl ht.fit (fun h => by rw [ht.nil h]; rfl) (fun g hg => ?_)
      refine ⟨U8 t.l, ⟨U8_len _, fun q hq => by rw [hg q hq, U8_get _ _ hq]⟩, ?_⟩
      (repeat first | (refine And.intro ?_ ?_; first | exact rfl | ((exact fun h => absurd h (by first | decide | (rw [e9]; decide))); intro yy; clear yy) | (rotate_left; (exact fun h => absurd h (by first | decide | (rw [e9]; decide))); intro yy; clear yy) | decide | omega) | (with_reducible refine frc_bytesL (by first | omega | decide) ?_) | (with_reducible refine frc_bytesM (by first | omega | decide) ?_))
      refine sn_bts rfl oQ.fit (fun h => by rw [oQ.nil h]; rfl) (fun g2 hg2 => ?_)
      refine ⟨U8 sQ.l, ⟨U8_len _, fun q hq => by rw [hg2 q hq, U8_get _ _ hq]⟩, ?_⟩
      have hcmp : (!decide (U8 t.l = U8 sQ.l)) = false := by rw [htl, decide_eq_true rfl]; rfl
      (repeat first | (refine And.intro ?_ ?_; first | exact rfl | ((exact fun h => absurd h (by first | decide | (rw [e9]; decide) | (rw [hcmp]; decide))); intro yy; clear yy) | (rotate_left; (exact fun h => absurd h (by first | decide | (rw [e9]; decide) | (rw [hcmp]; decide))); intro yy; clear yy) | decide | omega) | (with_reducible refine frc_bytesL (by first | omega | decide) ?_) | (with_reducible refine frc_bytesM (by first | omega | decide) ?_))
      refine ⟨(W3, ms3, 4 + 1), [0, 1, 2, 3, 4, 5, 6], ⟨⟨rfl, rfl, rfl⟩, ?_⟩, ⟨hL2.trans hL3, (show 4 + 1 ≤ 5 by decide)⟩, (show 5 - (4 + 1) < 5 - 4 by decide)⟩
      (repeat first | exact trivial | refine eqC_bts ?_ | refine ent1 ?_)
      refine ⟨eqC_row5 b sD sT sC sQ, ?_⟩
      (repeat first | exact trivial | refine eqC_bts ?_ | refine ent1 ?_)
    · obtain rfl := dec_err hD2 he
      have hn2 : n2 = 0 := hE3.len.symm
      subst hn2
      have k1 : decide (e2 ≠ 0) = true := decide_eq_true he
      (repeat first | (refine And.intro ?_ ?_; first | exact rfl | ((exact fun h => absurd h (by first | decide | (rw [k1]; decide))); intro yy; clear yy) | (rotate_left; (exact fun h => absurd h (by first | decide | (rw [k1]; decide))); intro yy; clear yy) | decide | omega) | (with_reducible refine frc_bytesL (by first | omega | decide) ?_) | (with_reducible refine frc_bytesM (by first | omega | decide) ?_))
      refine ⟨(W3, ms3, 4 + 1), [0, 1, 2, 3, 4, 5, 6], ⟨⟨rfl, rfl, rfl⟩, ?_⟩, ⟨hL2.trans hL3, (show 4 + 1 ≤ 5 by decide)⟩, (show 5 - (4 + 1) < 5 - 4 by decide)⟩
      (repeat first | exact trivial | refine eqC_bts ?_ | refine ent1 ?_)
      refine ⟨eqC_row5 b sD sT sC sQ, ?_⟩
      (repeat first | exact trivial | refine eqC_bts ?_ | refine ent1 ?_)
  · (repeat first | (refine And.intro ?_ ?_; first | exact rfl | ((exact fun h => absurd h (by first | decide)); intro yy; clear yy) | (rotate_left; (exact fun h => absurd h (by first | decide)); intro yy; clear yy) | decide | omega) | (with_reducible refine frc_bytesL (by first | omega | decide) ?_) | (with_reducible refine frc_bytesM (by first | omega | decide) ?_))
    refine call_past (fn_bdecode (W := W2) (ms := ms2) sC oC) 0 [2] rfl rfl (by (repeat first | exact trivial | refine ent1 ?_)) (by (repeat first | exact trivial | refine ent1 ?_); refine eqC_cut hcz ?_; (repeat first | exact trivial | refine eqC_bts ?_ | refine ent1 ?_)) (fun _ _ => trivial) (fun x hs hr => ?_) ?_
    · obtain ⟨es2, a2, n2, c2, e2, W3, ms3, _, hL3, _, _, rfl⟩ := hr
      exact ⟨W3, ms3, rfl, hL3⟩
    rintro y hs' ⟨es2, a2, n2, c2, e2, W3, ms3, hD2, hL3, hE3, rfl, rfl⟩
    have he : e2 ≠ 0 := by
      have := dec_cut hM0 hat
      rw [← hcl, hD2] at this
      exact this
    (repeat first | (refine And.intro ?_ ?_; first | exact rfl | ((exact fun h => absurd h (by first | decide)); intro yy; clear yy) | (rotate_left; (exact fun h => absurd h (by first | decide)); intro yy; clear yy) | decide | omega) | (with_reducible refine frc_bytesL (by first | omega | decide) ?_) | (with_reducible refine frc_bytesM (by first | omega | decide) ?_))
    refine sn_bts rfl oG.fit (fun h => by rw [oG.nil h]; rfl) (fun gm hgm => ?_)
    refine ⟨⟨Nat.le_refl _, Nat.le_refl _, by show (0 + sG.l.length) * 1 ≤ 140737488355328; omega⟩, fun cM hcM => ?_⟩
    refine ⟨by show 0 + 1 ≤ 1; decide, ?_⟩
    refine ⟨⟨hcM, by show 0 + cM ≤ cM; omega, by show (0 + sG.l.length + 1) * 1 ≤ 140737488355328; omega⟩, fun cQ hcQ => ?_⟩
    (repeat first | (refine And.intro ?_ ?_; first | exact rfl | ((exact fun h => absurd h (by first | decide)); intro yy; clear yy) | (rotate_left; (exact fun h => absurd h (by first | decide)); intro yy; clear yy) | decide | omega) | (with_reducible refine frc_bytesL (by first | omega | decide) ?_) | (with_reducible refine frc_bytesM (by first | omega | decide) ?_))
    have hRl : (sG.l ++ [0#8]).length = 0 + sG.l.length + 1 := by rw [List.length_append, Nat.zero_add]; rfl
    have oR : Sl.Ok ⟨false, cQ, 0, cQ, sG.l ++ [0#8]⟩ := own_ok (by rw [hRl]; exact hcQ) (by omega)
    refine call_past (fn_bdecode (W := W3) (ms := ms3) ⟨false, cQ, 0, cQ, sG.l ++ [0#8]⟩ oR) 0 [10] rfl rfl (by (repeat first | exact trivial | refine ent1 ?_); refine ⟨hRl.symm, rfl, ?_⟩; (repeat first | exact trivial | refine ent1 ?_)) ?_ (fun _ _ => trivial) (fun x hs hr => ?_) ?_
    · (repeat first | exact trivial | refine ent1 ?_)
      refine ⟨fun j hj => eqC_win0 (n := (sG.l ++ [0#8]).length) (b := L (sG.l ++ [0#8])) (fun i hi => ?_) j, ?_⟩
      · rw [hRl] at hi
        exact app_row (l := sG.l) (m := [0#8]) (n := 0 + sG.l.length) (k := 1) (Nat.zero_add _).symm rfl (fun i hi => app_row (l := []) (m := sG.l) (n := 0) (k := sG.l.length) rfl rfl (fun i hi => absurd hi (by omega)) hgm i hi) (fun q hq => one_row rfl q hq) i hi
      (repeat first | exact trivial | refine ent1 ?_)
    · obtain ⟨es4, a4, n4, c4, e4, W4, ms4, _, hL4, _, _, rfl⟩ := hr
      exact ⟨W4, ms4, rfl, hL4⟩
    rintro y hs' ⟨es4, a4, n4, c4, e4, W4, ms4, hD4, hL4, hE4, rfl, rfl⟩
    obtain rfl : e4 = 24 := by
      have := dec_more hM0 (r := [0#8]) (by decide)
      rw [← hGl, hD4] at this
      simp only [Prod.mk.injEq] at this
      exact this.2
    have k1 : decide (e2 ≠ 0) = true := decide_eq_true he
    have k2 : decide ((24 : Int) = 24) = true := by decide
    (repeat first | (refine And.intro ?_ ?_; first | exact rfl | ((exact fun h => absurd h (by first | decide | (rw [k1]; decide) | (rw [k2]; decide))); intro yy; clear yy) | (rotate_left; (exact fun h => absurd h (by first | decide | (rw [k1]; decide) | (rw [k2]; decide))); intro yy; clear yy) | decide | omega) | (with_reducible refine frc_bytesL (by first | omega | decide) ?_) | (with_reducible refine frc_bytesM (by first | omega | decide) ?_))
    refine ⟨.a (.c (.bool true)), [[.past W4 ms4], svB b], ⟨[0, 1], ⟨rfl, rfl, rfl⟩, ?_⟩, rfl⟩
    (repeat first | exact trivial | refine eqC_bts ?_ | refine ent1 ?_)
end Sx
end Go.Proofs.Ytdakmieapdpidaa
end
