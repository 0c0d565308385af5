/-
  Texts of this claim, part 7: ShaU. No condition of its own.
-/
import Derived.Test.YtndlhhhebijknaaG6
section
/-
  SHA-256: the law of sums, in parts. No condition.
-/
namespace Go.Proofs.Ytndlhhhebijknaa
set_option linter.unusedVariables false
namespace Sx
open Sha

/-- Bytes cut: k + 1 parts so far (room for M), what is left. -/
structure Cut where
  k : Nat
  M : Nat
  po : Nat → Nat
  pn : Nat → Nat
  pc : Nat → Nat
  o : Nat
  n : Nat
  c : Nat
def Cut.Ok (l : Bs) (x : Cut) : Prop :=
  x.k + 1 ≤ x.M ∧ (∀ i, i < x.k + 1 → x.po i + x.pn i ≤ l.length ∧ x.pn i ≤ x.pc i) ∧ x.o + x.n ≤ l.length ∧ x.n ≤ x.c ∧ cat (fun i => sub l (x.po i) (x.pn i)) (x.k + 1) ++ sub l x.o x.n = l
theorem sub_all (l : Bs) : sub l 0 l.length = l := by simp [sub]
theorem sub_zero (l : Bs) (o : Nat) : sub l o 0 = [] := by simp [sub]
theorem sub_split (l : Bs) (o n k : Nat) (h : k ≤ n) : sub l o n = sub l o k ++ sub l (o + k) (n - k) := by
  unfold sub
  rw [show n = k + (n - k) by omega, List.take_add, List.drop_drop, show k + (n - k) - k = n - k by omega]
theorem cat_congr {f g : Nat → Bs} : ∀ {k : Nat}, (∀ i, i < k → f i = g i) → cat f k = cat g k
  | 0, _ => rfl
  | k + 1, h => by simp only [cat]; rw [cat_congr (fun i hi => h i (by omega)), h k (by omega)]
/-- The next part. -/
def Cut.next (x : Cut) (kk M : Nat) : Cut := ⟨x.k + 1, M, fun i => if i < x.k + 1 then x.po i else x.o, fun i => if i < x.k + 1 then x.pn i else kk, fun i => if i < x.k + 1 then x.pc i else x.c, if x.c = kk then x.o else x.o + kk, x.n - kk, x.c - kk⟩
def Cut.first (n c kk M : Nat) : Cut := ⟨0, M, fun _ => 0, fun _ => kk, fun _ => c, if c = kk then 0 else kk, n - kk, c - kk⟩
theorem Cut.rest (l : Bs) (o n c kk : Nat) (h : kk ≤ n) (hc : n ≤ c) : sub l o kk ++ sub l (if c = kk then o else o + kk) (n - kk) = sub l o n := by
  rw [sub_split l o n kk h]
  by_cases hk : c = kk
  · rw [if_pos hk, show n - kk = 0 by omega, sub_zero, sub_zero]
  · rw [if_neg hk]
theorem Cut.first_ok (l : Bs) (c kk M : Nat) (hk : kk ≤ l.length) (hc : l.length ≤ c) (hM : 1 ≤ M) : Cut.Ok l (Cut.first l.length c kk M) := by
  refine ⟨hM, fun i _ => ⟨by show 0 + kk ≤ l.length; omega, by show kk ≤ c; omega⟩, ?_, by show l.length - kk ≤ c - kk; omega, ?_⟩
  · show (if c = kk then 0 else kk) + (l.length - kk) ≤ l.length
    split <;> omega
  · show ([] ++ sub l 0 kk) ++ sub l (if c = kk then 0 else kk) (l.length - kk) = l
    have := Cut.rest l 0 l.length c kk hk hc
    rw [sub_all] at this
    rw [List.nil_append]
    rwa [Nat.zero_add] at this
theorem Cut.next_ok {l : Bs} {x : Cut} (h : x.Ok l) (kk M : Nat) (hk : kk ≤ x.n) (hM : x.k + 2 ≤ M) : (x.next kk M).Ok l := by
  obtain ⟨h1, h2, h3, h4, h5⟩ := h
  refine ⟨hM, fun i hi => ?_, ?_, by show x.n - kk ≤ x.c - kk; omega, ?_⟩
  · show (if i < x.k + 1 then x.po i else x.o) + (if i < x.k + 1 then x.pn i else kk) ≤ l.length ∧ (if i < x.k + 1 then x.pn i else kk) ≤ (if i < x.k + 1 then x.pc i else x.c)
    by_cases hik : i < x.k + 1
    · rw [if_pos hik, if_pos hik, if_pos hik]; exact h2 i hik
    · rw [if_neg hik, if_neg hik, if_neg hik]; omega
  · show (if x.c = kk then x.o else x.o + kk) + (x.n - kk) ≤ l.length
    split <;> omega
  · show (cat (fun i => sub l (if i < x.k + 1 then x.po i else x.o) (if i < x.k + 1 then x.pn i else kk)) (x.k + 1) ++ sub l (if x.k + 1 < x.k + 1 then x.po (x.k + 1) else x.o) (if x.k + 1 < x.k + 1 then x.pn (x.k + 1) else kk)) ++ sub l (if x.c = kk then x.o else x.o + kk) (x.n - kk) = l
    rw [if_neg (by omega), if_neg (by omega), List.append_assoc, Cut.rest l x.o x.n x.c kk hk h4, cat_congr (g := fun i => sub l (x.po i) (x.pn i)) (fun i hi => by rw [if_pos hi, if_pos hi])]
    exact h5
set_option maxRecDepth 20000 in
set_option maxHeartbeats 4000000 in
theorem fn_shaSums (z0 z1 : Bool) (c0 c1 : Nat) (l0 l1 : Bs) (m : BitVec 16) (hc0 : l0.length ≤ c0) (hc1 : l1.length ≤ c1) (hz0 : z0 = true → l0 = []) (hz1 : z1 = true → l1 = []) :
    FnR Try.prog tds 3 2 [bts z0 l0.length 0 l0.length (L l0), bts z1 l1.length 0 l1.length (L l1)] [.c (.sn z0 0 0 0 l0.length c0), .c (.sn z1 1 0 0 l1.length c1), .c (.w16 m)] (fun _ => True) (fun x _ => x = .a (.c (.bool true))) := by
  refine fn_of_body tds_ok follows_ Try.func3 rfl (t := [.a (.c (.sn z0 0 0 0 l0.length c0)), .a (.c (.sn z1 1 0 0 l1.length c1)), .a (.c (.w16 m)), .any, .any, .any, .any, .any, .any, .any, .any, .any, .any, .any, .any, .any, .any, .any, .any, .any, .any, .any, .any, .any, .any, .any, .any, .any, .any, .any, .any, .any, .any, .any, .any, .any, .any, .any, .any, .any, .any, .any, .any, .any, .any, .any, .any, .any, .any, .any, .any, .any, .any, .any, .any, .any, .any, .any, .any, .any, .any, .any, .any, .any, .any, .any, .any, .any, .any, .any, .any, .any, .any, .any, .any, .any, .any, .any, .any, .any, .any, .any, .any, .any, .any, .any, .any, .any]) rfl (fun w r0 hr _ => ?_)
  obtain ⟨x0, x1, rfl⟩ := len2' hr
  refine ⟨by kernel_rfl, call_same fn_awake3 [] rfl trivial trivial (fun _ _ => trivial) ?_⟩
  rintro x hs ⟨rfl, rfl⟩
  refine ⟨fun h => Bool.noConfusion h, fun _ => ?_⟩
  by_cases h0 : 300 < l0.length
  · have e0 : decide ((300 : Int) < (l0.length : Int)) = true := decide_eq_true (by omega)
    (repeat first | refine And.intro (by omega) ?_ | refine And.intro (by decide) ?_ | refine And.intro rfl ?_ | refine And.intro (fun _ => ?_) (fun h => Bool.noConfusion h) | refine And.intro (fun h => Bool.noConfusion h) (fun _ => ?_) | refine And.intro (fun _ => ?_) (fun h => absurd h (by rw [e0]; decide)) | refine And.intro (fun h => absurd h (by rw [e0]; decide)) (fun _ => ?_))
    exact ⟨.a (.c (.bool true)), [[], []], ⟨[0, 1], ⟨rfl, rfl, rfl⟩, rfl, eqSegs_nil (eqSegs_nil trivial)⟩, rfl⟩
  have e0 : decide ((300 : Int) < (l0.length : Int)) = false := decide_eq_false (by omega)
  by_cases h1 : 20 < l1.length
  · have e1 : decide ((20 : Int) < (l1.length : Int)) = true := decide_eq_true (by omega)
    (repeat first | refine And.intro (by omega) ?_ | refine And.intro (by decide) ?_ | refine And.intro rfl ?_ | refine And.intro (fun _ => ?_) (fun h => Bool.noConfusion h) | refine And.intro (fun h => Bool.noConfusion h) (fun _ => ?_) | refine And.intro (fun _ => ?_) (fun h => absurd h (by rw [e0]; decide)) | refine And.intro (fun h => absurd h (by rw [e0]; decide)) (fun _ => ?_) | refine And.intro (fun _ => ?_) (fun h => absurd h (by rw [e1]; decide)) | refine And.intro (fun h => absurd h (by rw [e1]; decide)) (fun _ => ?_))
    exact ⟨.a (.c (.bool true)), [[], []], ⟨[0, 1], ⟨rfl, rfl, rfl⟩, rfl, eqSegs_nil (eqSegs_nil trivial)⟩, rfl⟩
  have e1 : decide ((20 : Int) < (l1.length : Int)) = false := decide_eq_false (by omega)
  (repeat first | refine And.intro (by omega) ?_ | refine And.intro (by decide) ?_ | refine And.intro rfl ?_ | refine And.intro (fun _ => ?_) (fun h => Bool.noConfusion h) | refine And.intro (fun h => Bool.noConfusion h) (fun _ => ?_) | refine And.intro (fun _ => ?_) (fun h => absurd h (by rw [e0]; decide)) | refine And.intro (fun h => absurd h (by rw [e0]; decide)) (fun _ => ?_) | refine And.intro (fun _ => ?_) (fun h => absurd h (by rw [e1]; decide)) | refine And.intro (fun h => absurd h (by rw [e1]; decide)) (fun _ => ?_))
  refine call_same fn_snew [] rfl trivial trivial (fun _ _ => trivial) ?_
  rintro x hs ⟨rfl, rfl⟩
  (repeat first | refine And.intro (by omega) ?_ | refine And.intro (by decide) ?_ | refine And.intro rfl ?_ | refine And.intro (fun _ => ?_) (fun h => Bool.noConfusion h) | refine And.intro (fun h => Bool.noConfusion h) (fun _ => ?_) | refine And.intro (fun _ => ?_) (fun h => absurd h (by rw [e0]; decide)) | refine And.intro (fun h => absurd h (by rw [e0]; decide)) (fun _ => ?_) | refine And.intro (fun _ => ?_) (fun h => absurd h (by rw [e1]; decide)) | refine And.intro (fun h => absurd h (by rw [e1]; decide)) (fun _ => ?_))
  refine call_same (fn_rsum z0 l0.length 0 c0 l0 (by omega) hc0 hz0 (by omega)) [0] rfl ⟨rfl, rfl, rfl, rfl, trivial⟩ (eqC_bts trivial) (fun _ _ => trivial) ?_
  rintro x hs ⟨cw, rfl, rfl, hcw⟩
  obtain ⟨S, hS⟩ : ∃ S, sumL l0 = S := ⟨_, rfl⟩
  have hSl : S.length = 32 := by rw [← hS, sumL_len]
  have q1 : decide (U8 S = U8 S) = true := decide_eq_true rfl
  rw [hS]
  (repeat first | refine And.intro (by omega) ?_ | refine And.intro (by decide) ?_ | refine And.intro rfl ?_ | refine And.intro (fun _ => ?_) (fun h => Bool.noConfusion h) | refine And.intro (fun h => Bool.noConfusion h) (fun _ => ?_) | refine And.intro (fun _ => ?_) (fun h => absurd h (by rw [q1]; decide)) | refine And.intro (fun h => absurd h (by rw [q1]; decide)) (fun _ => ?_))
  refine call_same (fn_ssum3 z0 true true l0.length 0 0 0 0 0 c0 0 0 l0 [] [] 1 1 1 0 (fun _ => 0) (fun _ => 0) (.inl rfl) (by omega) (by decide) (by decide) hc0 (by decide) (by decide) hz0 (fun _ => rfl) (fun _ => rfl) (by decide) (by decide)) [0, 4, 4, 4, 2] rfl (by (repeat first | exact trivial | refine ⟨rfl, ?_⟩ | refine ⟨fun _ _ => ⟨rfl, trivial⟩, ?_⟩ | refine ⟨fun _ _ => trivial, ?_⟩ | refine ⟨by omega, ?_⟩ | refine ⟨fun _ _ => eqC_winS, ?_⟩ | refine ⟨fun _ _ => eqC_winM, ?_⟩ | refine ⟨fun _ _ => eqC_winB, ?_⟩ | refine ⟨fun _ _ => eqC_selfB, ?_⟩ | refine ⟨fun _ _ => eqC_mpB, ?_⟩)) ?_ (fun _ _ => trivial) ?_
  · refine eqC_bts ?_
    (repeat first | exact trivial | refine ⟨rfl, ?_⟩ | refine ⟨fun _ _ => ⟨rfl, trivial⟩, ?_⟩ | refine ⟨fun _ _ => trivial, ?_⟩ | refine ⟨by omega, ?_⟩ | refine ⟨fun _ _ => eqC_winS, ?_⟩ | refine ⟨fun _ _ => eqC_winM, ?_⟩ | refine ⟨fun _ _ => eqC_winB, ?_⟩ | refine ⟨fun _ _ => eqC_selfB, ?_⟩ | refine ⟨fun _ _ => eqC_mpB, ?_⟩)
    refine ⟨fun j hj => eqC_parts (fun i hi => ?_) j, ?_⟩
    · obtain rfl : i = 0 := by omega
      exact ⟨rfl, rfl, rfl, rfl, trivial⟩
    · (repeat first | exact trivial | refine ⟨rfl, ?_⟩ | refine ⟨fun _ _ => ⟨rfl, trivial⟩, ?_⟩ | refine ⟨fun _ _ => trivial, ?_⟩ | refine ⟨by omega, ?_⟩ | refine ⟨fun _ _ => eqC_winS, ?_⟩ | refine ⟨fun _ _ => eqC_winM, ?_⟩ | refine ⟨fun _ _ => eqC_winB, ?_⟩ | refine ⟨fun _ _ => eqC_selfB, ?_⟩ | refine ⟨fun _ _ => eqC_mpB, ?_⟩)
  rintro x hs ⟨rfl, rfl⟩
  rw [cat1, hS]
  (repeat first | refine And.intro (by omega) ?_ | refine And.intro (by decide) ?_ | refine And.intro rfl ?_ | refine And.intro (fun _ => ?_) (fun h => Bool.noConfusion h) | refine And.intro (fun h => Bool.noConfusion h) (fun _ => ?_) | refine And.intro (fun _ => ?_) (fun h => absurd h (by rw [q1]; decide)) | refine And.intro (fun h => absurd h (by rw [q1]; decide)) (fun _ => ?_))
  refine ⟨none, [], [(0, true), (1, true), (2, true), (3, true), (4, true)], [], by kernel_rfl, ?_⟩
  (repeat first | refine And.intro (by omega) ?_ | refine And.intro (by decide) ?_ | refine And.intro rfl ?_ | refine And.intro (fun _ => ?_) (fun h => Bool.noConfusion h) | refine And.intro (fun h => Bool.noConfusion h) (fun _ => ?_) | refine And.intro (fun _ => ?_) (fun h => absurd h (by rw [q1]; decide)) | refine And.intro (fun h => absurd h (by rw [q1]; decide)) (fun _ => ?_))
  refine ⟨U8 S, str_of hSl (fun q hq => rfl), ?_⟩
  (repeat first | refine And.intro (by omega) ?_ | refine And.intro (by decide) ?_ | refine And.intro rfl ?_ | refine And.intro (fun _ => ?_) (fun h => Bool.noConfusion h) | refine And.intro (fun h => Bool.noConfusion h) (fun _ => ?_) | refine And.intro (fun _ => ?_) (fun h => absurd h (by rw [q1]; decide)) | refine And.intro (fun h => absurd h (by rw [q1]; decide)) (fun _ => ?_))
  refine And.intro (by simp only [scale]; omega) ?_
  refine ⟨U8 S, str_of hSl (fun q hq => ?_), ?_⟩
  · show SC.mp _ (bytesF 32 (L S) (q + 0)) = _
    rw [Nat.add_zero, bytesF_lt hq]
    rfl
  have q2 : (!decide (U8 S = U8 S)) = false := by rw [q1]; rfl
  (repeat first | refine And.intro (by omega) ?_ | refine And.intro (by decide) ?_ | refine And.intro rfl ?_ | refine And.intro (fun _ => ?_) (fun h => Bool.noConfusion h) | refine And.intro (fun h => Bool.noConfusion h) (fun _ => ?_) | refine And.intro (fun _ => ?_) (fun h => absurd h (by rw [q1]; decide)) | refine And.intro (fun h => absurd h (by rw [q1]; decide)) (fun _ => ?_) | refine And.intro (fun _ => ?_) (fun h => absurd h (by rw [q2]; decide)) | refine And.intro (fun h => absurd h (by rw [q2]; decide)) (fun _ => ?_))
-- LOOP
  refine .inl ⟨Option Cut, fun x => match x with
    | none => ⟨[.any, .any, .a (.c (.w16 m)), .any, .any, .any, .any, .a (.c (.p 2 0 0)), .a (.c (.sl 3 0 0 32 cw)), .any, .a (.c (.slc none 0 0)), .a (.c (.sn z0 0 0 0 l0.length c0)), .any, .any, .any, .any, .any, .any, .any, .any, .any, .any, .any, .any, .any, .any, .any, .any, .any, .any, .any, .any, .any, .any, .any, .any, .any, .any, .any, .any, .any, .a (.c (.sn z1 1 0 0 l1.length c1)), .a (.c (.int .i64 (↑l1.length))), .a (.c (.int .i64 (0))), .any, .any, .any, .any, .any, .any, .any, .any, .any, .any, .any, .any, .any, .any, .any, .any, .any, .any, .any, .any, .any, .any, .any, .any, .any, .any, .any, .any, .any, .any, .any, .any, .any, .any, .any, .any, .any, .any, .any, .any, .any, .any, .any, .any], [bts z0 l0.length 0 l0.length (L l0), bts z1 l1.length 0 l1.length (L l1), shaT 1 0 first steps, [.row cw (bytesF 32 (L S))]]⟩
    | some x => ⟨[.any, .any, .a (.c (.w16 m)), .any, .any, .any, .any, .a (.c (.p 2 0 0)), .a (.c (.sl 3 0 0 32 cw)), .any, .a (.c (.sl 4 0 0 (x.k + 1) x.M)), .a (.c (.sn z0 0 0 x.o x.n x.c)), .any, .any, .any, .any, .any, .any, .any, .any, .any, .any, .any, .any, .any, .any, .any, .any, .any, .any, .any, .any, .any, .any, .any, .any, .any, .any, .any, .any, .any, .a (.c (.sn z1 1 0 0 l1.length c1)), .a (.c (.int .i64 (↑l1.length))), .a (.c (.int .i64 (((x.k + 1 : Nat) : Int)))), .any, .any, .any, .any, .any, .any, .any, .any, .any, .any, .any, .any, .any, .any, .any, .any, .any, .any, .any, .any, .any, .any, .any, .any, .any, .any, .any, .any, .any, .any, .any, .any, .any, .any, .any, .any, .any, .any, .any, .any, .any, .any, .any, .any], [bts z0 l0.length 0 l0.length (L l0), bts z1 l1.length 0 l1.length (L l1), shaT 1 0 first steps, [.row cw (bytesF 32 (L S))], [.row x.M (partsF (x.k + 1) fun i => .sn z0 0 0 (0 + x.po i) (x.pn i) (x.pc i))]]⟩,
    fun x => match x with
    | none => True
    | some x => x.Ok l0 ∧ x.k + 1 ≤ l1.length, fun x => match x with
    | none => 100
    | some x => 50 - x.k, ⟨none, [0, 1, 2, 3], ⟨⟨rfl, rfl, rfl⟩, ?_⟩, trivial⟩, fun x => ?_⟩
  · (repeat first | exact trivial | refine ⟨rfl, ?_⟩ | refine ⟨fun _ _ => ⟨rfl, trivial⟩, ?_⟩ | refine ⟨fun _ _ => trivial, ?_⟩ | refine ⟨by omega, ?_⟩ | refine ⟨fun _ _ => eqC_winS, ?_⟩ | refine ⟨fun _ _ => eqC_winM, ?_⟩ | refine ⟨fun _ _ => eqC_winB, ?_⟩ | refine ⟨fun _ _ => eqC_selfB, ?_⟩ | refine ⟨fun _ _ => eqC_mpB, ?_⟩)
    refine eqC_bts (eqC_bts ?_)
    (repeat first | exact trivial | refine ⟨rfl, ?_⟩ | refine ⟨fun _ _ => ⟨rfl, trivial⟩, ?_⟩ | refine ⟨fun _ _ => trivial, ?_⟩ | refine ⟨by omega, ?_⟩ | refine ⟨fun _ _ => eqC_winS, ?_⟩ | refine ⟨fun _ _ => eqC_winM, ?_⟩ | refine ⟨fun _ _ => eqC_winB, ?_⟩ | refine ⟨fun _ _ => eqC_selfB, ?_⟩ | refine ⟨fun _ _ => eqC_mpB, ?_⟩)
  rcases x with _ | x
  · intro _
    refine ⟨fun h => ?_, fun h => ?_⟩
    · have hlt : 0 < l1.length := by have : (0 : Int) < l1.length := of_decide_eq_true h; omega
      obtain rfl : z1 = false := by
        cases z1 with
        | false => rfl
        | true => exact absurd hlt (by rw [hz1 rfl]; exact Nat.not_lt_zero _)
      (repeat first | refine And.intro (by omega) ?_ | refine And.intro (by decide) ?_ | (with_reducible refine frc_parts (by first | omega | decide) ?_) | (with_reducible refine frc_bytesL (by first | omega | decide) ?_) | refine And.intro rfl ?_)
      refine frc_win (i := 0) (by omega) ?_
      (repeat first | refine And.intro (by omega) ?_ | refine And.intro (by decide) ?_ | (with_reducible refine frc_parts (by first | omega | decide) ?_) | (with_reducible refine frc_bytesL (by first | omega | decide) ?_) | refine And.intro rfl ?_)
      obtain ⟨kk, hkk⟩ : ∃ kk : Nat, ((L l1 0).toNat : Int) % ((l0.length : Nat) + 1 : Int) = kk := ⟨(L l1 0).toNat % (l0.length + 1), (Int.natCast_emod _ _).symm⟩
      have hkn : kk ≤ l0.length := by
        have := Int.emod_lt_of_pos ((L l1 0).toNat : Int) (show (0 : Int) < ((l0.length : Nat) + 1 : Int) by omega)
        omega
      rw [hkk]
      refine ⟨some [], [], [(0, true), (1, true), (2, true), (3, true), (6, true), (7, true), (8, true), (4, false), (5, false), (9, true)], [10], by kernel_rfl, ?_⟩
      have e1 : ((kk : Nat) : Int).toNat = kk := by omega
      have e2 : (((l0.length) : Nat) : Int).toNat = l0.length := by omega
      refine ⟨⟨by omega, by omega, by omega⟩, ?_⟩
      refine frcN_of (m := 0) rfl ?_
      refine frcN_of e1 ?_
      refine frcN_of (m := 0) (by split <;> omega) ?_
      refine frcN_of (m := kk) (Nat.sub_zero _) ?_
      refine frcN_of (m := c0) (Nat.sub_zero _) ?_
      refine ⟨⟨by omega, by omega, by omega⟩, ?_⟩
      refine frcN_of e1 ?_
      refine frcN_of e2 ?_
      refine frcN_of (m := if c0 = kk then 0 else 0 + kk) (by split <;> simp_all) ?_
      refine frcN_of (m := l0.length - kk) rfl ?_
      refine frcN_of (m := c0 - kk) rfl ?_
      refine ⟨by decide, ⟨rfl, rfl⟩, by decide, fun h => absurd h (by decide), fun _ M' hM' => ?_⟩
      (repeat first | refine And.intro (by omega) ?_ | refine And.intro (by decide) ?_ | (with_reducible refine frc_parts (by first | omega | decide) ?_) | (with_reducible refine frc_bytesL (by first | omega | decide) ?_) | refine And.intro rfl ?_)
      refine ⟨some (Cut.first l0.length c0 kk M'), [0, 1, 2, 3, 5], ⟨⟨rfl, rfl, rfl⟩, ?_⟩, ⟨Cut.first_ok l0 c0 kk M' hkn hc0 (by omega), ?_⟩, ?_⟩
      · (repeat first | exact trivial | refine ⟨rfl, ?_⟩ | refine ⟨fun _ _ => ⟨rfl, trivial⟩, ?_⟩ | refine ⟨fun _ _ => trivial, ?_⟩ | refine ⟨by omega, ?_⟩ | refine ⟨fun _ _ => eqC_winS, ?_⟩ | refine ⟨fun _ _ => eqC_winM, ?_⟩ | refine ⟨fun _ _ => eqC_winB, ?_⟩ | refine ⟨fun _ _ => eqC_selfB, ?_⟩ | refine ⟨fun _ _ => eqC_mpB, ?_⟩)
        refine ⟨(by show (if c0 = kk then 0 else 0 + kk) = (if c0 = kk then 0 else kk); rw [Nat.zero_add]), rfl, rfl, ?_⟩
        (repeat first | exact trivial | refine ⟨rfl, ?_⟩ | refine ⟨fun _ _ => ⟨rfl, trivial⟩, ?_⟩ | refine ⟨fun _ _ => trivial, ?_⟩ | refine ⟨by omega, ?_⟩ | refine ⟨fun _ _ => eqC_winS, ?_⟩ | refine ⟨fun _ _ => eqC_winM, ?_⟩ | refine ⟨fun _ _ => eqC_winB, ?_⟩ | refine ⟨fun _ _ => eqC_selfB, ?_⟩ | refine ⟨fun _ _ => eqC_mpB, ?_⟩)
        refine eqC_bts ?_
        (repeat first | exact trivial | refine ⟨rfl, ?_⟩ | refine ⟨fun _ _ => ⟨rfl, trivial⟩, ?_⟩ | refine ⟨fun _ _ => trivial, ?_⟩ | refine ⟨by omega, ?_⟩ | refine ⟨fun _ _ => eqC_winS, ?_⟩ | refine ⟨fun _ _ => eqC_winM, ?_⟩ | refine ⟨fun _ _ => eqC_winB, ?_⟩ | refine ⟨fun _ _ => eqC_selfB, ?_⟩ | refine ⟨fun _ _ => eqC_mpB, ?_⟩)
        refine ⟨fun j hj => eqC_parts (fun i hi => ?_) j, trivial⟩
        obtain rfl : i = 0 := by have : i < 0 + 1 := hi; omega
        exact ⟨rfl, rfl, rfl, rfl, trivial⟩
      · show 0 + 1 ≤ l1.length; omega
      · show 50 - 0 < 100; omega
    · have hl1 : l1.length = 0 := by have : ¬ (0 : Int) < l1.length := of_decide_eq_false h; omega
      refine ⟨by decide, ⟨rfl, rfl⟩, by decide, fun h => absurd h (by decide), fun _ M' hM' => ?_⟩
      (repeat first | refine And.intro (by omega) ?_ | refine And.intro (by decide) ?_ | (with_reducible refine frc_parts (by first | omega | decide) ?_) | (with_reducible refine frc_bytesL (by first | omega | decide) ?_) | refine And.intro rfl ?_)
      have hcat : cat (fun i => sub l0 ((fun _ => 0) i) ((fun _ => l0.length) i)) 1 = l0 := by show [] ++ sub l0 0 l0.length = l0; rw [sub_all, List.nil_append]
      refine call_same (fn_ssum z0 l0.length 0 c0 M' M' 1 l0 (fun _ => 0) (fun _ => l0.length) (fun _ => c0) 1 first steps (.inr ⟨rfl, rfl, rfl⟩) (by omega) hz0 (by omega) (by omega) (fun i hi => ⟨by omega, hc0⟩)) [0, 5, 2] rfl (by (repeat first | exact trivial | refine ⟨rfl, ?_⟩ | refine ⟨fun _ _ => ⟨rfl, trivial⟩, ?_⟩ | refine ⟨fun _ _ => trivial, ?_⟩ | refine ⟨by omega, ?_⟩ | refine ⟨fun _ _ => eqC_winS, ?_⟩ | refine ⟨fun _ _ => eqC_winM, ?_⟩ | refine ⟨fun _ _ => eqC_winB, ?_⟩ | refine ⟨fun _ _ => eqC_selfB, ?_⟩ | refine ⟨fun _ _ => eqC_mpB, ?_⟩)) ?_ (fun _ _ => trivial) ?_
      · refine eqC_bts ?_
        (repeat first | exact trivial | refine ⟨rfl, ?_⟩ | refine ⟨fun _ _ => ⟨rfl, trivial⟩, ?_⟩ | refine ⟨fun _ _ => trivial, ?_⟩ | refine ⟨by omega, ?_⟩ | refine ⟨fun _ _ => eqC_winS, ?_⟩ | refine ⟨fun _ _ => eqC_winM, ?_⟩ | refine ⟨fun _ _ => eqC_winB, ?_⟩ | refine ⟨fun _ _ => eqC_selfB, ?_⟩ | refine ⟨fun _ _ => eqC_mpB, ?_⟩)
        refine ⟨fun j hj => eqC_parts (fun i hi => ?_) j, ?_⟩
        · obtain rfl : i = 0 := by omega
          exact ⟨rfl, rfl, rfl, rfl, trivial⟩
        (repeat first | exact trivial | refine ⟨rfl, ?_⟩ | refine ⟨fun _ _ => ⟨rfl, trivial⟩, ?_⟩ | refine ⟨fun _ _ => trivial, ?_⟩ | refine ⟨by omega, ?_⟩ | refine ⟨fun _ _ => eqC_winS, ?_⟩ | refine ⟨fun _ _ => eqC_winM, ?_⟩ | refine ⟨fun _ _ => eqC_winB, ?_⟩ | refine ⟨fun _ _ => eqC_selfB, ?_⟩ | refine ⟨fun _ _ => eqC_mpB, ?_⟩)
      rintro x hs ⟨rfl, rfl⟩
      rw [hcat, hS]
      (repeat first | refine And.intro (by omega) ?_ | refine And.intro (by decide) ?_ | refine And.intro rfl ?_ | refine And.intro (fun _ => ?_) (fun h => Bool.noConfusion h) | refine And.intro (fun h => Bool.noConfusion h) (fun _ => ?_) | refine And.intro (fun _ => ?_) (fun h => absurd h (by rw [q1]; decide)) | refine And.intro (fun h => absurd h (by rw [q1]; decide)) (fun _ => ?_))
      refine ⟨none, [], [(0, true), (1, true), (2, true), (3, true), (4, true)], [], by kernel_rfl, ?_⟩
      (repeat first | refine And.intro (by omega) ?_ | refine And.intro (by decide) ?_ | refine And.intro rfl ?_ | refine And.intro (fun _ => ?_) (fun h => Bool.noConfusion h) | refine And.intro (fun h => Bool.noConfusion h) (fun _ => ?_) | refine And.intro (fun _ => ?_) (fun h => absurd h (by rw [q1]; decide)) | refine And.intro (fun h => absurd h (by rw [q1]; decide)) (fun _ => ?_))
      refine ⟨U8 S, str_of hSl (fun q hq => rfl), ?_⟩
      (repeat first | refine And.intro (by omega) ?_ | refine And.intro (by decide) ?_ | refine And.intro rfl ?_ | refine And.intro (fun _ => ?_) (fun h => Bool.noConfusion h) | refine And.intro (fun h => Bool.noConfusion h) (fun _ => ?_) | refine And.intro (fun _ => ?_) (fun h => absurd h (by rw [q1]; decide)) | refine And.intro (fun h => absurd h (by rw [q1]; decide)) (fun _ => ?_))
      try refine And.intro (by simp only [scale]; omega) ?_
      refine ⟨U8 S, str_of hSl (fun q hq => ?_), ?_⟩
      · show bytesF 32 (L S) (q + 0) = _
        rw [Nat.add_zero, bytesF_lt hq]
      (repeat first | refine And.intro (by omega) ?_ | refine And.intro (by decide) ?_ | refine And.intro rfl ?_ | refine And.intro (fun _ => ?_) (fun h => Bool.noConfusion h) | refine And.intro (fun h => Bool.noConfusion h) (fun _ => ?_) | refine And.intro (fun _ => ?_) (fun h => absurd h (by rw [q1]; decide)) | refine And.intro (fun h => absurd h (by rw [q1]; decide)) (fun _ => ?_) | refine And.intro (fun _ => ?_) (fun h => absurd h (by rw [q2]; decide)) | refine And.intro (fun h => absurd h (by rw [q2]; decide)) (fun _ => ?_))
      obtain ⟨n, hn⟩ : ∃ n, m.toNat % 300 = n := ⟨_, rfl⟩
      have en : ((m.toNat : Nat) : Int) % 300 = (n : Int) := by omega
      have hn9 : n < 300 := by omega
      rw [en]
      obtain ⟨Z, hZ⟩ : ∃ Z, tab n (fun _ => 0#8) = Z := ⟨_, rfl⟩
      have hZl : Z.length = n := by rw [← hZ, tab_len]
      have hZ0 : ∀ i, i < n → L Z i = 0#8 := fun i hi => by rw [← hZ, L_tab hi]
      refine ⟨⟨by omega, by omega, by show (n : Int) * 1 ≤ 140737488355328; omega, by omega⟩, ?_⟩
      have et : ((n : Nat) : Int).toNat = n := by omega
      refine frcN_of et ?_
      refine frcN_of et ?_
      (repeat first | refine And.intro (by omega) ?_ | refine And.intro (by decide) ?_ | (with_reducible refine frc_parts (by first | omega | decide) ?_) | (with_reducible refine frc_bytesL (by first | omega | decide) ?_) | refine And.intro rfl ?_)
      refine call_same (fn_ssum false n 0 n 1 1 1 Z (fun _ => 0) (fun _ => n) (fun _ => n) 1 first steps (.inr ⟨rfl, rfl, rfl⟩) (by omega) (fun h => Bool.noConfusion h) (by omega) (by omega) (fun i hi => ⟨by omega, Nat.le_refl _⟩)) [7, 8, 2] rfl (by (repeat first | exact trivial | refine ⟨rfl, ?_⟩ | refine ⟨fun _ _ => ⟨rfl, trivial⟩, ?_⟩ | refine ⟨fun _ _ => trivial, ?_⟩ | refine ⟨by omega, ?_⟩ | refine ⟨fun _ _ => eqC_winS, ?_⟩ | refine ⟨fun _ _ => eqC_winM, ?_⟩ | refine ⟨fun _ _ => eqC_winB, ?_⟩ | refine ⟨fun _ _ => eqC_selfB, ?_⟩ | refine ⟨fun _ _ => eqC_mpB, ?_⟩)) ?_ (fun _ _ => trivial) ?_
      · rw [hZl]
        (repeat first | exact trivial | refine ⟨rfl, ?_⟩ | refine ⟨fun _ _ => ⟨rfl, trivial⟩, ?_⟩ | refine ⟨fun _ _ => trivial, ?_⟩ | refine ⟨by omega, ?_⟩ | refine ⟨fun _ _ => eqC_winS, ?_⟩ | refine ⟨fun _ _ => eqC_winM, ?_⟩ | refine ⟨fun _ _ => eqC_winB, ?_⟩ | refine ⟨fun _ _ => eqC_selfB, ?_⟩ | refine ⟨fun _ _ => eqC_mpB, ?_⟩)
        refine ⟨fun j hj => eqC_win0 (f := fun _ => SC.w8 0) (fun i hi => by rw [hZ0 i hi]; rfl) j, ?_⟩
        (repeat first | exact trivial | refine ⟨rfl, ?_⟩ | refine ⟨fun _ _ => ⟨rfl, trivial⟩, ?_⟩ | refine ⟨fun _ _ => trivial, ?_⟩ | refine ⟨by omega, ?_⟩ | refine ⟨fun _ _ => eqC_winS, ?_⟩ | refine ⟨fun _ _ => eqC_winM, ?_⟩ | refine ⟨fun _ _ => eqC_winB, ?_⟩ | refine ⟨fun _ _ => eqC_selfB, ?_⟩ | refine ⟨fun _ _ => eqC_mpB, ?_⟩)
        refine ⟨fun j hj => eqC_parts (fun i hi => ?_) j, ?_⟩
        · obtain rfl : i = 0 := by omega
          exact ⟨rfl, rfl, rfl, rfl, trivial⟩
        (repeat first | exact trivial | refine ⟨rfl, ?_⟩ | refine ⟨fun _ _ => ⟨rfl, trivial⟩, ?_⟩ | refine ⟨fun _ _ => trivial, ?_⟩ | refine ⟨by omega, ?_⟩ | refine ⟨fun _ _ => eqC_winS, ?_⟩ | refine ⟨fun _ _ => eqC_winM, ?_⟩ | refine ⟨fun _ _ => eqC_winB, ?_⟩ | refine ⟨fun _ _ => eqC_selfB, ?_⟩ | refine ⟨fun _ _ => eqC_mpB, ?_⟩)
      rintro x hs ⟨rfl, rfl⟩
      have hcat2 : cat (fun i => sub Z ((fun _ => 0) i) ((fun _ => n) i)) 1 = Z := by
        show [] ++ sub Z 0 n = Z
        rw [List.nil_append, ← hZl, sub_all]
      rw [hcat2]
      obtain ⟨R, hR⟩ : ∃ R, sumL Z = R := ⟨_, rfl⟩
      have hRl : R.length = 32 := by rw [← hR, sumL_len]
      rw [hR]
      (repeat first | refine And.intro (by omega) ?_ | refine And.intro (by decide) ?_ | refine And.intro rfl ?_ | refine And.intro (fun _ => ?_) (fun h => Bool.noConfusion h) | refine And.intro (fun h => Bool.noConfusion h) (fun _ => ?_))
      refine ⟨none, [], [(0, true), (1, true), (2, true), (3, false), (4, true), (5, true), (6, true)], [], by kernel_rfl, ?_⟩
      (repeat first | refine And.intro (by omega) ?_ | refine And.intro (by decide) ?_ | refine And.intro rfl ?_ | refine And.intro (fun _ => ?_) (fun h => Bool.noConfusion h) | refine And.intro (fun h => Bool.noConfusion h) (fun _ => ?_))
      refine ⟨U8 R, str_of hRl (fun q hq => rfl), ?_⟩
      (repeat first | refine And.intro (by omega) ?_ | refine And.intro (by decide) ?_ | refine And.intro rfl ?_ | refine And.intro (fun _ => ?_) (fun h => Bool.noConfusion h) | refine And.intro (fun h => Bool.noConfusion h) (fun _ => ?_))
      refine call_same (fn_rsum false n 0 n Z (by omega) (by omega) (fun h => Bool.noConfusion h) (by omega)) [7] rfl (by (repeat first | exact trivial | refine ⟨rfl, ?_⟩ | refine ⟨fun _ _ => ⟨rfl, trivial⟩, ?_⟩ | refine ⟨fun _ _ => trivial, ?_⟩ | refine ⟨by omega, ?_⟩ | refine ⟨fun _ _ => eqC_winS, ?_⟩ | refine ⟨fun _ _ => eqC_winM, ?_⟩ | refine ⟨fun _ _ => eqC_winB, ?_⟩ | refine ⟨fun _ _ => eqC_selfB, ?_⟩ | refine ⟨fun _ _ => eqC_mpB, ?_⟩)) ?_ (fun _ _ => trivial) ?_
      · rw [hZl]
        (repeat first | exact trivial | refine ⟨rfl, ?_⟩ | refine ⟨fun _ _ => ⟨rfl, trivial⟩, ?_⟩ | refine ⟨fun _ _ => trivial, ?_⟩ | refine ⟨by omega, ?_⟩ | refine ⟨fun _ _ => eqC_winS, ?_⟩ | refine ⟨fun _ _ => eqC_winM, ?_⟩ | refine ⟨fun _ _ => eqC_winB, ?_⟩ | refine ⟨fun _ _ => eqC_selfB, ?_⟩ | refine ⟨fun _ _ => eqC_mpB, ?_⟩)
        exact ⟨fun j hj => eqC_win0 (f := fun _ => SC.w8 0) (fun i hi => by rw [hZ0 i hi]; rfl) j, trivial⟩
      rintro x hs ⟨c9, rfl, rfl, hc9⟩
      rw [hR]
      (repeat first | refine And.intro (by omega) ?_ | refine And.intro (by decide) ?_ | refine And.intro rfl ?_ | refine And.intro (fun _ => ?_) (fun h => Bool.noConfusion h) | refine And.intro (fun h => Bool.noConfusion h) (fun _ => ?_))
      try refine And.intro (by simp only [scale]; omega) ?_
      refine ⟨U8 R, str_of hRl (fun q hq => ?_), ?_⟩
      · show SC.mp _ (bytesF 32 (L R) q) = _
        rw [bytesF_lt hq]
        rfl
      (repeat first | refine And.intro (by omega) ?_ | refine And.intro (by decide) ?_ | refine And.intro rfl ?_ | refine And.intro (fun _ => ?_) (fun h => Bool.noConfusion h) | refine And.intro (fun h => Bool.noConfusion h) (fun _ => ?_))
      exact ⟨.a (.c (.bool true)), [[], []], ⟨[0, 1], ⟨rfl, rfl, rfl⟩, decide_eq_true rfl, eqSegs_nil (eqSegs_nil trivial)⟩, rfl⟩
  · rintro ⟨hok, hk⟩
    obtain ⟨g1, g2, g3, g4, g5⟩ := hok
    refine ⟨fun h => ?_, fun h => ?_⟩
    · have hlt : x.k + 1 < l1.length := by have : ((x.k + 1 : Nat) : Int) < l1.length := of_decide_eq_true h; omega
      obtain rfl : z1 = false := by
        cases z1 with
        | false => rfl
        | true => exact absurd hlt (by rw [hz1 rfl]; exact Nat.not_lt_zero _)
      (repeat first | refine And.intro (by omega) ?_ | refine And.intro (by decide) ?_ | (with_reducible refine frc_parts (by first | omega | decide) ?_) | (with_reducible refine frc_bytesL (by first | omega | decide) ?_) | refine And.intro rfl ?_)
      refine frc_win (i := x.k + 1) (by omega) ?_
      (repeat first | refine And.intro (by omega) ?_ | refine And.intro (by decide) ?_ | (with_reducible refine frc_parts (by first | omega | decide) ?_) | (with_reducible refine frc_bytesL (by first | omega | decide) ?_) | refine And.intro rfl ?_)
      obtain ⟨kk, hkk⟩ : ∃ kk : Nat, ((L l1 (x.k + 1)).toNat : Int) % ((x.n : Nat) + 1 : Int) = kk := ⟨(L l1 (x.k + 1)).toNat % (x.n + 1), (Int.natCast_emod _ _).symm⟩
      have hkn : kk ≤ x.n := by
        have := Int.emod_lt_of_pos ((L l1 (x.k + 1)).toNat : Int) (show (0 : Int) < ((x.n : Nat) + 1 : Int) by omega)
        omega
      rw [hkk]
      refine ⟨some [], [], [(0, true), (1, true), (2, true), (3, true), (6, true), (7, true), (8, true), (4, false), (5, false), (9, true)], [10], by kernel_rfl, ?_⟩
      have e1 : ((kk : Nat) : Int).toNat = kk := by omega
      have e2 : (((x.n) : Nat) : Int).toNat = x.n := by omega
      refine ⟨⟨by omega, by omega, by omega⟩, ?_⟩
      refine frcN_of (m := 0) rfl ?_
      refine frcN_of e1 ?_
      refine frcN_of (m := x.o) (by split <;> omega) ?_
      refine frcN_of (m := kk) (Nat.sub_zero _) ?_
      refine frcN_of (m := x.c) (Nat.sub_zero _) ?_
      refine ⟨⟨by omega, by omega, by omega⟩, ?_⟩
      refine frcN_of e1 ?_
      refine frcN_of e2 ?_
      refine frcN_of (m := if x.c = kk then x.o else x.o + kk) (by split <;> simp_all) ?_
      refine frcN_of (m := x.n - kk) rfl ?_
      refine frcN_of (m := x.c - kk) rfl ?_
      refine ⟨by decide, ⟨by omega, by simp only [scale]; omega, by show (x.k + 1 + 1) * 24 ≤ 140737488355328; omega⟩, fun M' hM' => ?_⟩
      (repeat first | refine And.intro (by omega) ?_ | refine And.intro (by decide) ?_ | (with_reducible refine frc_parts (by first | omega | decide) ?_) | (with_reducible refine frc_bytesL (by first | omega | decide) ?_) | refine And.intro rfl ?_)
      refine ⟨some (x.next kk M'), [0, 1, 2, 3, 6], ⟨⟨rfl, rfl, rfl⟩, ?_⟩, ⟨Cut.next_ok ⟨g1, g2, g3, g4, g5⟩ kk M' hkn (by omega), ?_⟩, ?_⟩
      · (repeat first | exact trivial | refine ⟨rfl, ?_⟩ | refine ⟨fun _ _ => ⟨rfl, trivial⟩, ?_⟩ | refine ⟨fun _ _ => trivial, ?_⟩ | refine ⟨by omega, ?_⟩ | refine ⟨fun _ _ => eqC_winS, ?_⟩ | refine ⟨fun _ _ => eqC_winM, ?_⟩ | refine ⟨fun _ _ => eqC_winB, ?_⟩ | refine ⟨fun _ _ => eqC_selfB, ?_⟩ | refine ⟨fun _ _ => eqC_mpB, ?_⟩)
        skip
        (repeat first | exact trivial | refine ⟨rfl, ?_⟩ | refine ⟨fun _ _ => ⟨rfl, trivial⟩, ?_⟩ | refine ⟨fun _ _ => trivial, ?_⟩ | refine ⟨by omega, ?_⟩ | refine ⟨fun _ _ => eqC_winS, ?_⟩ | refine ⟨fun _ _ => eqC_winM, ?_⟩ | refine ⟨fun _ _ => eqC_winB, ?_⟩ | refine ⟨fun _ _ => eqC_selfB, ?_⟩ | refine ⟨fun _ _ => eqC_mpB, ?_⟩)
        refine eqC_bts ?_
        (repeat first | exact trivial | refine ⟨rfl, ?_⟩ | refine ⟨fun _ _ => ⟨rfl, trivial⟩, ?_⟩ | refine ⟨fun _ _ => trivial, ?_⟩ | refine ⟨by omega, ?_⟩ | refine ⟨fun _ _ => eqC_winS, ?_⟩ | refine ⟨fun _ _ => eqC_winM, ?_⟩ | refine ⟨fun _ _ => eqC_winB, ?_⟩ | refine ⟨fun _ _ => eqC_selfB, ?_⟩ | refine ⟨fun _ _ => eqC_mpB, ?_⟩)
        refine ⟨fun j hj => eqC_parts (fun i hi => ?_) j, trivial⟩
        have hi' : i < x.k + 2 := hi
        by_cases h2 : i < x.k + 1
        · unfold appF partsF
          rw [if_pos (by simpa [scale] using h2), Nat.add_zero, if_pos h2]
          exact ⟨rfl, (by show 0 + x.po i = 0 + (if i < x.k + 1 then x.po i else x.o); rw [if_pos h2]), (by show x.pn i = (if i < x.k + 1 then x.pn i else kk); rw [if_pos h2]), (by show x.pc i = (if i < x.k + 1 then x.pc i else x.c); rw [if_pos h2]), trivial⟩
        · obtain rfl : i = x.k + 1 := by omega
          unfold appF
          rw [if_neg (by simp [scale]), if_pos (by simp [scale]), show x.k + 1 - scale (x.k + 1) (0 + 1) = 0 by simp [scale]]
          exact ⟨rfl, (by show x.o = 0 + (if x.k + 1 < x.k + 1 then x.po (x.k + 1) else x.o); rw [if_neg (by omega), Nat.zero_add]), (by show kk = (if x.k + 1 < x.k + 1 then x.pn (x.k + 1) else kk); rw [if_neg (by omega)]), (by show x.c = (if x.k + 1 < x.k + 1 then x.pc (x.k + 1) else x.c); rw [if_neg (by omega)]), trivial⟩
      · show x.k + 1 + 1 ≤ l1.length; omega
      · show 50 - (x.k + 1) < 50 - x.k; omega
    · skip
      refine ⟨by decide, ⟨by omega, by simp only [scale]; omega, by show (x.k + 1 + 1) * 24 ≤ 140737488355328; omega⟩, fun M' hM' => ?_⟩
      (repeat first | refine And.intro (by omega) ?_ | refine And.intro (by decide) ?_ | (with_reducible refine frc_parts (by first | omega | decide) ?_) | (with_reducible refine frc_bytesL (by first | omega | decide) ?_) | refine And.intro rfl ?_)
      have hcat : cat (fun i => sub l0 ((fun i => if i < x.k + 1 then x.po i else x.o) i) ((fun i => if i < x.k + 1 then x.pn i else x.n) i)) (x.k + 2) = l0 := by
        show cat (fun i => sub l0 (if i < x.k + 1 then x.po i else x.o) (if i < x.k + 1 then x.pn i else x.n)) (x.k + 1) ++ sub l0 (if x.k + 1 < x.k + 1 then x.po (x.k + 1) else x.o) (if x.k + 1 < x.k + 1 then x.pn (x.k + 1) else x.n) = l0
        rw [if_neg (by omega), if_neg (by omega), cat_congr (g := fun i => sub l0 (x.po i) (x.pn i)) (fun i hi => by rw [if_pos hi, if_pos hi])]
        exact g5
      refine call_same (fn_ssum z0 l0.length 0 c0 M' M' (x.k + 2) l0 (fun i => if i < x.k + 1 then x.po i else x.o) (fun i => if i < x.k + 1 then x.pn i else x.n) (fun i => if i < x.k + 1 then x.pc i else x.c) 1 first steps (.inr ⟨rfl, rfl, rfl⟩) (by omega) hz0 (by omega) (by omega) (fun i hi => by
          by_cases h2 : i < x.k + 1
          · rw [if_pos h2, if_pos h2, if_pos h2]; exact g2 i h2
          · rw [if_neg h2, if_neg h2, if_neg h2]; exact ⟨g3, g4⟩)) [0, 6, 2] rfl (by (repeat first | exact trivial | refine ⟨rfl, ?_⟩ | refine ⟨fun _ _ => ⟨rfl, trivial⟩, ?_⟩ | refine ⟨fun _ _ => trivial, ?_⟩ | refine ⟨by omega, ?_⟩ | refine ⟨fun _ _ => eqC_winS, ?_⟩ | refine ⟨fun _ _ => eqC_winM, ?_⟩ | refine ⟨fun _ _ => eqC_winB, ?_⟩ | refine ⟨fun _ _ => eqC_selfB, ?_⟩ | refine ⟨fun _ _ => eqC_mpB, ?_⟩)) ?_ (fun _ _ => trivial) ?_
      · refine eqC_bts ?_
        (repeat first | exact trivial | refine ⟨rfl, ?_⟩ | refine ⟨fun _ _ => ⟨rfl, trivial⟩, ?_⟩ | refine ⟨fun _ _ => trivial, ?_⟩ | refine ⟨by omega, ?_⟩ | refine ⟨fun _ _ => eqC_winS, ?_⟩ | refine ⟨fun _ _ => eqC_winM, ?_⟩ | refine ⟨fun _ _ => eqC_winB, ?_⟩ | refine ⟨fun _ _ => eqC_selfB, ?_⟩ | refine ⟨fun _ _ => eqC_mpB, ?_⟩)
        refine ⟨fun j hj => eqC_parts (fun i hi => ?_) j, ?_⟩
        · by_cases h2 : i < x.k + 1
          · unfold appF partsF
            rw [if_pos (by simpa [scale] using h2), Nat.add_zero, if_pos h2]
            exact ⟨rfl, (by rw [if_pos h2]), (by rw [if_pos h2]), (by rw [if_pos h2]), trivial⟩
          · obtain rfl : i = x.k + 1 := by omega
            unfold appF
            rw [if_neg (by simp [scale]), if_pos (by simp [scale]), show x.k + 1 - scale (x.k + 1) (0 + 1) = 0 by simp [scale]]
            exact ⟨rfl, (by rw [if_neg (by omega), Nat.zero_add]), (by rw [if_neg (by omega)]), (by rw [if_neg (by omega)]), trivial⟩
        (repeat first | exact trivial | refine ⟨rfl, ?_⟩ | refine ⟨fun _ _ => ⟨rfl, trivial⟩, ?_⟩ | refine ⟨fun _ _ => trivial, ?_⟩ | refine ⟨by omega, ?_⟩ | refine ⟨fun _ _ => eqC_winS, ?_⟩ | refine ⟨fun _ _ => eqC_winM, ?_⟩ | refine ⟨fun _ _ => eqC_winB, ?_⟩ | refine ⟨fun _ _ => eqC_selfB, ?_⟩ | refine ⟨fun _ _ => eqC_mpB, ?_⟩)
      rintro x hs ⟨rfl, rfl⟩
      rw [hcat, hS]
      (repeat first | refine And.intro (by omega) ?_ | refine And.intro (by decide) ?_ | refine And.intro rfl ?_ | refine And.intro (fun _ => ?_) (fun h => Bool.noConfusion h) | refine And.intro (fun h => Bool.noConfusion h) (fun _ => ?_) | refine And.intro (fun _ => ?_) (fun h => absurd h (by rw [q1]; decide)) | refine And.intro (fun h => absurd h (by rw [q1]; decide)) (fun _ => ?_))
      refine ⟨none, [], [(0, true), (1, true), (2, true), (3, true), (4, true)], [], by kernel_rfl, ?_⟩
      (repeat first | refine And.intro (by omega) ?_ | refine And.intro (by decide) ?_ | refine And.intro rfl ?_ | refine And.intro (fun _ => ?_) (fun h => Bool.noConfusion h) | refine And.intro (fun h => Bool.noConfusion h) (fun _ => ?_) | refine And.intro (fun _ => ?_) (fun h => absurd h (by rw [q1]; decide)) | refine And.intro (fun h => absurd h (by rw [q1]; decide)) (fun _ => ?_))
      refine ⟨U8 S, str_of hSl (fun q hq => rfl), ?_⟩
      (repeat first | refine And.intro (by omega) ?_ | refine And.intro (by decide) ?_ | refine And.intro rfl ?_ | refine And.intro (fun _ => ?_) (fun h => Bool.noConfusion h) | refine And.intro (fun h => Bool.noConfusion h) (fun _ => ?_) | refine And.intro (fun _ => ?_) (fun h => absurd h (by rw [q1]; decide)) | refine And.intro (fun h => absurd h (by rw [q1]; decide)) (fun _ => ?_))
      try refine And.intro (by simp only [scale]; omega) ?_
      refine ⟨U8 S, str_of hSl (fun q hq => ?_), ?_⟩
      · show bytesF 32 (L S) (q + 0) = _
        rw [Nat.add_zero, bytesF_lt hq]
      (repeat first | refine And.intro (by omega) ?_ | refine And.intro (by decide) ?_ | refine And.intro rfl ?_ | refine And.intro (fun _ => ?_) (fun h => Bool.noConfusion h) | refine And.intro (fun h => Bool.noConfusion h) (fun _ => ?_) | refine And.intro (fun _ => ?_) (fun h => absurd h (by rw [q1]; decide)) | refine And.intro (fun h => absurd h (by rw [q1]; decide)) (fun _ => ?_) | refine And.intro (fun _ => ?_) (fun h => absurd h (by rw [q2]; decide)) | refine And.intro (fun h => absurd h (by rw [q2]; decide)) (fun _ => ?_))
      obtain ⟨n, hn⟩ : ∃ n, m.toNat % 300 = n := ⟨_, rfl⟩
      have en : ((m.toNat : Nat) : Int) % 300 = (n : Int) := by omega
      have hn9 : n < 300 := by omega
      rw [en]
      obtain ⟨Z, hZ⟩ : ∃ Z, tab n (fun _ => 0#8) = Z := ⟨_, rfl⟩
      have hZl : Z.length = n := by rw [← hZ, tab_len]
      have hZ0 : ∀ i, i < n → L Z i = 0#8 := fun i hi => by rw [← hZ, L_tab hi]
      refine ⟨⟨by omega, by omega, by show (n : Int) * 1 ≤ 140737488355328; omega, by omega⟩, ?_⟩
      have et : ((n : Nat) : Int).toNat = n := by omega
      refine frcN_of et ?_
      refine frcN_of et ?_
      (repeat first | refine And.intro (by omega) ?_ | refine And.intro (by decide) ?_ | (with_reducible refine frc_parts (by first | omega | decide) ?_) | (with_reducible refine frc_bytesL (by first | omega | decide) ?_) | refine And.intro rfl ?_)
      refine call_same (fn_ssum false n 0 n 1 1 1 Z (fun _ => 0) (fun _ => n) (fun _ => n) 1 first steps (.inr ⟨rfl, rfl, rfl⟩) (by omega) (fun h => Bool.noConfusion h) (by omega) (by omega) (fun i hi => ⟨by omega, Nat.le_refl _⟩)) [8, 9, 2] rfl (by (repeat first | exact trivial | refine ⟨rfl, ?_⟩ | refine ⟨fun _ _ => ⟨rfl, trivial⟩, ?_⟩ | refine ⟨fun _ _ => trivial, ?_⟩ | refine ⟨by omega, ?_⟩ | refine ⟨fun _ _ => eqC_winS, ?_⟩ | refine ⟨fun _ _ => eqC_winM, ?_⟩ | refine ⟨fun _ _ => eqC_winB, ?_⟩ | refine ⟨fun _ _ => eqC_selfB, ?_⟩ | refine ⟨fun _ _ => eqC_mpB, ?_⟩)) ?_ (fun _ _ => trivial) ?_
      · rw [hZl]
        (repeat first | exact trivial | refine ⟨rfl, ?_⟩ | refine ⟨fun _ _ => ⟨rfl, trivial⟩, ?_⟩ | refine ⟨fun _ _ => trivial, ?_⟩ | refine ⟨by omega, ?_⟩ | refine ⟨fun _ _ => eqC_winS, ?_⟩ | refine ⟨fun _ _ => eqC_winM, ?_⟩ | refine ⟨fun _ _ => eqC_winB, ?_⟩ | refine ⟨fun _ _ => eqC_selfB, ?_⟩ | refine ⟨fun _ _ => eqC_mpB, ?_⟩)
        refine ⟨fun j hj => eqC_win0 (f := fun _ => SC.w8 0) (fun i hi => by rw [hZ0 i hi]; rfl) j, ?_⟩
        (repeat first | exact trivial | refine ⟨rfl, ?_⟩ | refine ⟨fun _ _ => ⟨rfl, trivial⟩, ?_⟩ | refine ⟨fun _ _ => trivial, ?_⟩ | refine ⟨by omega, ?_⟩ | refine ⟨fun _ _ => eqC_winS, ?_⟩ | refine ⟨fun _ _ => eqC_winM, ?_⟩ | refine ⟨fun _ _ => eqC_winB, ?_⟩ | refine ⟨fun _ _ => eqC_selfB, ?_⟩ | refine ⟨fun _ _ => eqC_mpB, ?_⟩)
        refine ⟨fun j hj => eqC_parts (fun i hi => ?_) j, ?_⟩
        · obtain rfl : i = 0 := by omega
          exact ⟨rfl, rfl, rfl, rfl, trivial⟩
        (repeat first | exact trivial | refine ⟨rfl, ?_⟩ | refine ⟨fun _ _ => ⟨rfl, trivial⟩, ?_⟩ | refine ⟨fun _ _ => trivial, ?_⟩ | refine ⟨by omega, ?_⟩ | refine ⟨fun _ _ => eqC_winS, ?_⟩ | refine ⟨fun _ _ => eqC_winM, ?_⟩ | refine ⟨fun _ _ => eqC_winB, ?_⟩ | refine ⟨fun _ _ => eqC_selfB, ?_⟩ | refine ⟨fun _ _ => eqC_mpB, ?_⟩)
      rintro x hs ⟨rfl, rfl⟩
      have hcat2 : cat (fun i => sub Z ((fun _ => 0) i) ((fun _ => n) i)) 1 = Z := by
        show [] ++ sub Z 0 n = Z
        rw [List.nil_append, ← hZl, sub_all]
      rw [hcat2]
      obtain ⟨R, hR⟩ : ∃ R, sumL Z = R := ⟨_, rfl⟩
      have hRl : R.length = 32 := by rw [← hR, sumL_len]
      rw [hR]
      (repeat first | refine And.intro (by omega) ?_ | refine And.intro (by decide) ?_ | refine And.intro rfl ?_ | refine And.intro (fun _ => ?_) (fun h => Bool.noConfusion h) | refine And.intro (fun h => Bool.noConfusion h) (fun _ => ?_))
      refine ⟨none, [], [(0, true), (1, true), (2, true), (3, false), (4, true), (5, true), (6, true)], [], by kernel_rfl, ?_⟩
      (repeat first | refine And.intro (by omega) ?_ | refine And.intro (by decide) ?_ | refine And.intro rfl ?_ | refine And.intro (fun _ => ?_) (fun h => Bool.noConfusion h) | refine And.intro (fun h => Bool.noConfusion h) (fun _ => ?_))
      refine ⟨U8 R, str_of hRl (fun q hq => rfl), ?_⟩
      (repeat first | refine And.intro (by omega) ?_ | refine And.intro (by decide) ?_ | refine And.intro rfl ?_ | refine And.intro (fun _ => ?_) (fun h => Bool.noConfusion h) | refine And.intro (fun h => Bool.noConfusion h) (fun _ => ?_))
      refine call_same (fn_rsum false n 0 n Z (by omega) (by omega) (fun h => Bool.noConfusion h) (by omega)) [8] rfl (by (repeat first | exact trivial | refine ⟨rfl, ?_⟩ | refine ⟨fun _ _ => ⟨rfl, trivial⟩, ?_⟩ | refine ⟨fun _ _ => trivial, ?_⟩ | refine ⟨by omega, ?_⟩ | refine ⟨fun _ _ => eqC_winS, ?_⟩ | refine ⟨fun _ _ => eqC_winM, ?_⟩ | refine ⟨fun _ _ => eqC_winB, ?_⟩ | refine ⟨fun _ _ => eqC_selfB, ?_⟩ | refine ⟨fun _ _ => eqC_mpB, ?_⟩)) ?_ (fun _ _ => trivial) ?_
      · rw [hZl]
        (repeat first | exact trivial | refine ⟨rfl, ?_⟩ | refine ⟨fun _ _ => ⟨rfl, trivial⟩, ?_⟩ | refine ⟨fun _ _ => trivial, ?_⟩ | refine ⟨by omega, ?_⟩ | refine ⟨fun _ _ => eqC_winS, ?_⟩ | refine ⟨fun _ _ => eqC_winM, ?_⟩ | refine ⟨fun _ _ => eqC_winB, ?_⟩ | refine ⟨fun _ _ => eqC_selfB, ?_⟩ | refine ⟨fun _ _ => eqC_mpB, ?_⟩)
        exact ⟨fun j hj => eqC_win0 (f := fun _ => SC.w8 0) (fun i hi => by rw [hZ0 i hi]; rfl) j, trivial⟩
      rintro x hs ⟨c9, rfl, rfl, hc9⟩
      rw [hR]
      (repeat first | refine And.intro (by omega) ?_ | refine And.intro (by decide) ?_ | refine And.intro rfl ?_ | refine And.intro (fun _ => ?_) (fun h => Bool.noConfusion h) | refine And.intro (fun h => Bool.noConfusion h) (fun _ => ?_))
      try refine And.intro (by simp only [scale]; omega) ?_
      refine ⟨U8 R, str_of hRl (fun q hq => ?_), ?_⟩
      · show SC.mp _ (bytesF 32 (L R) q) = _
        rw [bytesF_lt hq]
        rfl
      (repeat first | refine And.intro (by omega) ?_ | refine And.intro (by decide) ?_ | refine And.intro rfl ?_ | refine And.intro (fun _ => ?_) (fun h => Bool.noConfusion h) | refine And.intro (fun h => Bool.noConfusion h) (fun _ => ?_))
      exact ⟨.a (.c (.bool true)), [[], []], ⟨[0, 1], ⟨rfl, rfl, rfl⟩, decide_eq_true rfl, eqSegs_nil (eqSegs_nil trivial)⟩, rfl⟩
end Sx
end Go.Proofs.Ytndlhhhebijknaa
end
