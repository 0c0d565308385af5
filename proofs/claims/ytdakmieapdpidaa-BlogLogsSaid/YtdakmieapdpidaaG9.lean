/-
  Texts of this claim, part 9: EoN, EoP, EoQ, EoR, EoS, VrA, EoT, EoU, EoV, EoW, EoX, EoY, Sxw, Sxw2, Sxv, Sxs, EoZ, EpA, Sxzf, EpC, EpE, EpF, EpD, EpG, EqA, EqB, EqC, EqD, EqE. No condition of its own.
-/
import Derived.OpenShut
import Derived.ChangeArms
import Derived.Test.YtdakmieapdpidaaG8
section
/-
  The statements' own functions: Awake, Same (binnaclelaw25). No condition.
-/
namespace Go.Proofs.Ytdakmieapdpidaa
set_option linter.unusedVariables false
namespace Ev
theorem enc_nil : encM [] = ([66#8, 73#8, 78#8, 49#8, 0#8], 0) := by decide +kernel
theorem sameE_iff {e f : Ev} : sameE e f ↔ e = f := by
  cases e; cases f
  unfold sameE
  simp only [Ev.mk.injEq]
theorem same_all {l m : List Ev} (hn : l.length = m.length) (h : ∀ (i : Nat) (e f : Ev), l[i]? = some e → m[i]? = some f → e = f) : l = m := by
  refine List.ext_getElem? fun i => ?_
  by_cases hi : i < l.length
  · rw [List.getElem?_eq_getElem hi, List.getElem?_eq_getElem (by omega)]
    exact congrArg some (h i _ _ (List.getElem?_eq_getElem hi) (List.getElem?_eq_getElem (by omega)))
  · rw [List.getElem?_eq_none (by omega), List.getElem?_eq_none (by omega)]
end Ev
namespace Sx
open Go.RowKit Sha Vi Ev

set_option maxRecDepth 20000 in
theorem fn_bawake {W : World} {ms : List Nat} : FnR Try.prog tds 7 1 [[.past W ms]] [] (fun _ => True) (fun y hs => y = .a (.c (.bool true)) ∧ hs = [[.past W ms]]) := by
  refine fn_of_body tds_ok follows_ Try.func7 rfl (t := anys Try.f7.ntmps) rfl (fun w r0 hr0 _ => ?_)
  obtain ⟨x0, rfl⟩ := List.length_eq_one_iff.1 hr0
  (repeat first | (refine And.intro ?_ ?_; first | exact rfl | ((exact fun h => absurd h (by first | decide)); intro yy; clear yy) | (rotate_left; (exact fun h => absurd h (by first | decide)); intro yy; clear yy) | decide | omega) | (with_reducible refine frc_bytesL (by first | omega | decide) ?_) | (with_reducible refine frc_bytesM (by first | omega | decide) ?_))
  refine call_same (fn_bencode (W := W) (ms := ms) EvsAt.nul) [0] rfl (by (repeat first | exact trivial | refine ent1 ?_)) (by (repeat first | exact trivial | refine ent1 ?_)) (fun _ _ => trivial) ?_
  rintro x hs' ⟨-, hk⟩
  obtain ⟨t, e, hM, ht, rfl, rfl⟩ := hk (by omega)
  rw [enc_nil] at hM
  obtain ⟨htl, rfl⟩ : t.l = [66#8, 73#8, 78#8, 49#8, 0#8] ∧ 0 = e := by simp only [Prod.mk.injEq] at hM; exact ⟨hM.1.symm, hM.2⟩
  (repeat first | (refine And.intro ?_ ?_; first | exact rfl | ((exact fun h => absurd h (by first | decide)); intro yy; clear yy) | (rotate_left; (exact fun h => absurd h (by first | decide)); intro yy; clear yy) | decide | omega) | (with_reducible refine frc_bytesL (by first | omega | decide) ?_) | (with_reducible refine frc_bytesM (by first | omega | decide) ?_))
  refine sn_btsM rfl ht.fit (fun h => by rw [ht.nil h]; rfl) (fun g hg => ?_)
  refine ⟨U8 t.l, ⟨U8_len _, fun q hq => by rw [hg q hq, U8_get _ _ hq]⟩, ?_⟩
  (repeat first | (refine And.intro ?_ ?_; first | exact rfl | ((exact fun h => absurd h (by first | decide)); intro yy; clear yy) | (rotate_left; (exact fun h => absurd h (by first | decide)); intro yy; clear yy) | decide | omega) | (with_reducible refine frc_bytesL (by first | omega | decide) ?_) | (with_reducible refine frc_bytesM (by first | omega | decide) ?_))
  have hb : decide (U8 t.l = [66, 73, 78, 49, 0]) = true := by rw [htl]; rfl
  refine ⟨.a (.c (.bool true)), [[.past W ms]], ⟨[0], ⟨rfl, rfl, rfl⟩, ?_⟩, rfl, rfl⟩
  refine And.intro hb ?_
  (repeat first | exact trivial | refine ent1 ?_)
set_option maxRecDepth 20000 in
set_option maxHeartbeats 8000000 in
theorem fn_bsame {W : World} {ms : List Nat} {a b : Option Addr} {n m c d : Nat} {l k : List Ev} (h1 : EvsAt W ms a n c l) (h2 : EvsAt W ms b m d k) : FnR Try.prog tds 15 1 [[.past W ms]] [.c (.slc a n c), .c (.slc b m d)] (fun _ => True)
    (fun y hs => (∃ r : Bool, (r = true ↔ l = k) ∧ y = .a (.c (.bool r))) ∧ hs = [[.past W ms]]) := by
  have hn := h1.len
  have hm := h2.len
  have hcap := h1.cap
  refine fn_of_body tds_ok follows_ Try.func15 rfl (t := .a (.c (.slc a n c)) :: .a (.c (.slc b m d)) :: anys (Try.f15.ntmps - 2)) rfl (fun w r0 hr _ => ?_)
  obtain ⟨x0, rfl⟩ := List.length_eq_one_iff.1 hr
  (repeat first | (refine And.intro ?_ ?_; first | exact rfl | ((exact fun h => absurd h (by first | decide)); intro yy; clear yy) | (rotate_left; (exact fun h => absurd h (by first | decide)); intro yy; clear yy) | decide | omega) | (with_reducible refine frc_bytesL (by first | omega | decide) ?_) | (with_reducible refine frc_bytesM (by first | omega | decide) ?_))
  by_cases g1 : n ≠ m
  · have k1 : decide ((n : Int) ≠ (m : Int)) = true := decide_eq_true (by omega)
    (repeat first | (refine And.intro ?_ ?_; first | exact rfl | ((exact fun h => absurd h (by first | decide | (rw [k1]; decide))); intro yy; clear yy) | (rotate_left; (exact fun h => absurd h (by first | decide | (rw [k1]; decide))); intro yy; clear yy) | decide | omega) | (with_reducible refine frc_bytesL (by first | omega | decide) ?_) | (with_reducible refine frc_bytesM (by first | omega | decide) ?_))
    exact ⟨.a (.c (.bool false)), [[.past W ms]], ⟨[0], ⟨rfl, rfl, rfl⟩, by (repeat first | exact trivial | refine ent1 ?_)⟩, ⟨false, ⟨fun h => Bool.noConfusion h, fun h => absurd (congrArg List.length h) (by omega)⟩, rfl⟩, rfl⟩
  have k1 : decide ((n : Int) ≠ (m : Int)) = false := decide_eq_false (by omega)
  obtain rfl : n = m := by omega
  (repeat first | (refine And.intro ?_ ?_; first | exact rfl | ((exact fun h => absurd h (by first | decide | (rw [k1]; decide))); intro yy; clear yy) | (rotate_left; (exact fun h => absurd h (by first | decide | (rw [k1]; decide))); intro yy; clear yy) | decide | omega) | (with_reducible refine frc_bytesL (by first | omega | decide) ?_) | (with_reducible refine frc_bytesM (by first | omega | decide) ?_))
  refine .inl ⟨Nat, fun i => ⟨[.a (.c (.slc a n c)), .a (.c (.slc b n d)), .any, .any, .any, .any, .any, .any, .any, .any, .any, .any, .a (.c (.int .i64 (↑n))), .a (.c (.int .i64 (↑i))), .any, .any, .any, .any, .any, .any, .any, .any, .any, .any, .any, .any, .any], [[.past W ms]]⟩, fun i => i ≤ n ∧ ∀ j e f, j < i → l[j]? = some e → k[j]? = some f → sameE e f, fun i => n - i, ⟨0, [0], ⟨⟨rfl, rfl, rfl⟩, by (repeat first | exact trivial | refine ent1 ?_)⟩, Nat.zero_le _, fun j e f hj => absurd hj (Nat.not_lt_zero _)⟩, fun i ⟨hi, hall⟩ => ?_⟩
  refine And.intro (fun hlt => ?_) (fun hge => ?_)
  · have hlt : i < n := by have : (i : Int) < (n : Int) := of_decide_eq_true hlt; omega
    obtain ⟨e, he⟩ : ∃ e, l[i]? = some e := ⟨_, List.getElem?_eq_getElem (by omega)⟩
    obtain ⟨f, hf⟩ : ∃ f, k[i]? = some f := ⟨_, List.getElem?_eq_getElem (by omega)⟩
    cases ha : a with
    | none => have := h1.nil ha; have := h1.le; omega
    | some A =>
    cases hb : b with
    | none => have := h2.nil hb; have := h2.le; omega
    | some B =>
    obtain ⟨x, him, hx⟩ := h1.elt A ha i e he
    obtain ⟨y, hjm, hy⟩ := h2.elt B hb i f hf
    subst ha; subst hb
    (repeat first | (refine And.intro ?_ ?_; first | exact rfl | ((exact fun h => absurd h (by first | decide)); intro yy; clear yy) | (rotate_left; (exact fun h => absurd h (by first | decide)); intro yy; clear yy) | decide | omega) | (with_reducible refine frc_bytesL (by first | omega | decide) ?_) | (with_reducible refine frc_bytesM (by first | omega | decide) ?_))
    refine ⟨none, [], [(0, true), (1, true), (2, true), (3, true), (4, true), (5, true), (6, true), (7, true), (8, false), (9, true)], [], by kernel_rfl, ?_⟩
    refine And.intro (show (0 : Int) ≤ (i : Int) ∧ (i : Int) < (n : Int) by omega) ?_
    refine ⟨evS e x, ⟨RawAt.past (i := 0) rfl him, rfl⟩, ?_⟩
    refine And.intro (show (0 : Int) ≤ (i : Int) ∧ (i : Int) < (n : Int) by omega) ?_
    refine ⟨evS f y, ⟨RawAt.past (i := 0) rfl hjm, rfl⟩, ?_⟩
    (repeat first | (refine And.intro ?_ ?_; first | exact rfl | ((exact fun h => absurd h (by first | decide)); intro yy; clear yy) | (rotate_left; (exact fun h => absurd h (by first | decide)); intro yy; clear yy) | decide | omega) | (with_reducible refine frc_bytesL (by first | omega | decide) ?_) | (with_reducible refine frc_bytesM (by first | omega | decide) ?_))
    refine call_same (fn_esame hx hy) [0] rfl (by (repeat first | exact trivial | refine ent1 ?_)) (by (repeat first | exact trivial | refine ent1 ?_)) (fun _ _ => trivial) ?_
    rintro z hs' ⟨rfl, rfl⟩
    (repeat first | (refine And.intro ?_ ?_; first | exact rfl | ((exact fun h => absurd h (by first | decide)); intro yy; clear yy) | (rotate_left; (exact fun h => absurd h (by first | decide)); intro yy; clear yy) | decide | omega) | (with_reducible refine frc_bytesL (by first | omega | decide) ?_) | (with_reducible refine frc_bytesM (by first | omega | decide) ?_))
    by_cases hs : sameE e f
    · have ks : decide (sameE e f) = true := decide_eq_true hs
      have ks' : (!decide (sameE e f)) = false := by rw [ks]; rfl
      (repeat first | (refine And.intro ?_ ?_; first | exact rfl | ((exact fun h => absurd h (by first | decide | (rw [ks']; decide))); intro yy; clear yy) | (rotate_left; (exact fun h => absurd h (by first | decide | (rw [ks']; decide))); intro yy; clear yy) | decide | omega) | (with_reducible refine frc_bytesL (by first | omega | decide) ?_) | (with_reducible refine frc_bytesM (by first | omega | decide) ?_))
      refine ⟨i + 1, [0], ⟨⟨rfl, rfl, rfl⟩, by (repeat first | exact trivial | refine ent1 ?_)⟩, ⟨by omega, fun j e' f' hj he' hf' => ?_⟩, by dsimp only; omega⟩
      by_cases hji : j = i
      · subst hji
        rw [he] at he'; rw [hf] at hf'
        injection he' with he'; injection hf' with hf'
        rw [← he', ← hf']; exact hs
      · exact hall j e' f' (by omega) he' hf'
    · have ks : decide (sameE e f) = false := decide_eq_false hs
      have ks' : (!decide (sameE e f)) = true := by rw [ks]; rfl
      (repeat first | (refine And.intro ?_ ?_; first | exact rfl | ((exact fun h => absurd h (by first | decide | (rw [ks']; decide))); intro yy; clear yy) | (rotate_left; (exact fun h => absurd h (by first | decide | (rw [ks']; decide))); intro yy; clear yy) | decide | omega) | (with_reducible refine frc_bytesL (by first | omega | decide) ?_) | (with_reducible refine frc_bytesM (by first | omega | decide) ?_))
      exact ⟨.a (.c (.bool false)), [[.past W ms]], ⟨[0], ⟨rfl, rfl, rfl⟩, by (repeat first | exact trivial | refine ent1 ?_)⟩, ⟨false, ⟨fun h => Bool.noConfusion h, fun h => absurd (sameE_iff.2 (Option.some.inj (he.symm.trans ((by rw [h]) : l[i]? = k[i]?) |>.trans hf))) hs⟩, rfl⟩, rfl⟩
  · obtain rfl : i = n := by have : ¬ (i : Int) < (n : Int) := of_decide_eq_false hge; omega
    (repeat first | (refine And.intro ?_ ?_; first | exact rfl | ((exact fun h => absurd h (by first | decide)); intro yy; clear yy) | (rotate_left; (exact fun h => absurd h (by first | decide)); intro yy; clear yy) | decide | omega) | (with_reducible refine frc_bytesL (by first | omega | decide) ?_) | (with_reducible refine frc_bytesM (by first | omega | decide) ?_))
    exact ⟨.a (.c (.bool true)), [[.past W ms]], ⟨[0], ⟨rfl, rfl, rfl⟩, by (repeat first | exact trivial | refine ent1 ?_)⟩, ⟨true, ⟨fun _ => same_all (by omega) (fun j e f he hf => sameE_iff.1 (hall j e f (by rw [← hn]; exact (List.getElem?_eq_some_iff.1 he).1) he hf)), fun _ => rfl⟩, rfl⟩, rfl⟩
end Sx
end Go.Proofs.Ytdakmieapdpidaa
end

section
/-
  Numbers with the fewest bytes, both ways. No condition.
-/
namespace Go.Proofs.Ytdakmieapdpidaa
set_option linter.unusedVariables false
namespace Vi
open Sha
theorem nx_putE {n : BitVec 64} (h0 : lenN n ≠ 0) (r : Bs) : nextM (putL n ++ r) 0 = ((n, lenN n, true), r, 0) := by
  have hk := lenN_ok h0
  obtain ⟨h1, h2⟩ := take_wide hk h0 (Nat.le_refl _) r
  have hl : (putL n).length = lenN n := wideL_len _ _
  have hpos : 0 < lenN n := by omega
  have ht : takeM (putL n ++ r) = (n, lenN n, 0) := by
    unfold takeM
    rw [if_neg (by rw [show sizeT (L (putL n ++ r) 0) = lenN n from h1, List.length_append]; omega)]
    rw [show sizeT (L (putL n ++ r) 0) = lenN n from h1, show numT (putL n ++ r) (lenN n - 1) = n from h2]
  unfold nextM
  rw [if_neg (by decide), ht]
  show (if (0 : Int) ≠ 0 then _ else ((n, lenN n, true), (putL n ++ r).drop (lenN n), 0)) = _
  rw [if_neg (by decide), ← hl, List.drop_left]
theorem least_put {n : BitVec 64} (h0 : lenN n ≠ 0) (r : Bs) : leastM (putL n ++ r) 0 = (n, r, 0) := by
  unfold leastM; rw [nx_putE h0]
  show (if true = false then _ else if lenN n ≠ lenN n then _ else _) = _
  rw [if_neg (by decide), if_neg (fun h => h rfl)]
end Vi
end Go.Proofs.Ytdakmieapdpidaa
end

section
/-
  Events as bytes and back: the plain law. No condition.
-/
namespace Go.Proofs.Ytdakmieapdpidaa
set_option linter.unusedVariables false
namespace Ev
open Vi Sha
theorem numsR_put : ∀ (N : List (BitVec 64)) (r : Bs), (∀ n ∈ N, lenN n ≠ 0) → numsR N.length (putAll N ++ r) 0 = (N, r, 0)
  | [], r, _ => rfl
  | n :: N, r, h => by
    show numsR (N.length + 1) ((putL n ++ putAll N) ++ r) 0 = _
    rw [List.append_assoc, numsR, least_put (h n (List.mem_cons_self ..))]
    dsimp only
    rw [numsR_put N r fun m hm => h m (List.mem_cons_of_mem _ hm)]
theorem min20 {m : BitVec 64} (h : ¬ 20#64 < m) : manyL m = (m.toNat : Int) ∧ m.toNat ≤ 20 := by
  unfold manyL
  rw [if_neg h]
  rw [BitVec.lt_def] at h
  have : (20#64).toNat = 20 := rfl
  exact ⟨rfl, by omega⟩
theorem take3_put {e : Ev} (r : Bs) (h1 : e.D.length ≤ 20) (h2 : evData e.k = false → e.D = []) : take3 e.k e.t e.N ((if evData e.k = true then longL e.D else []) ++ r, 0) = (e, r, 0) := by
  cases hd : evData e.k
  · rw [take3_no hd]
    have := h2 hd
    cases e
    dsimp only at this ⊢
    subst this
    rfl
  · rw [if_pos rfl]
    have hl : lenN (BitVec.ofNat 64 e.D.length) ≠ 0 := lenN_of (by omega)
    have hx : leastM (longL e.D ++ r) 0 = (BitVec.ofNat 64 e.D.length, e.D ++ r, 0) := by
      show leastM ((putL _ ++ e.D) ++ r) 0 = _
      rw [List.append_assoc, least_put hl]
    have hm : (BitVec.ofNat 64 e.D.length).toNat = e.D.length := by rw [BitVec.toNat_ofNat]; omega
    have hlt : ¬ 20#64 < BitVec.ofNat 64 e.D.length := by
      rw [BitVec.lt_def, hm]
      have : (20#64).toNat = 20 := rfl
      omega
    refine take3_ok hd hx (D := e.D) (l2 := r) (e2 := 0) ?_
    rw [decide_eq_false hlt]
    show bytesM (e.D ++ r) 0 (manyL _) = _
    rw [(min20 hlt).1, hm]
    unfold bytesM
    rw [if_neg (by decide), if_neg (by rw [List.length_append]; omega)]
    rw [Int.toNat_natCast, List.take_left, List.drop_left]
theorem kind_put {k : BitVec 8} : kindL (BitVec.setWidth 64 k) = k := by
  unfold kindL
  have := k.isLt
  rw [if_neg (by rw [BitVec.lt_def, BitVec.toNat_setWidth]; have : (255#64).toNat = 255 := rfl; omega)]
  apply BitVec.eq_of_toNat_eq
  rw [BitVec.toNat_setWidth, BitVec.toNat_setWidth]
  omega
/-- An event that may be, behind a time. -/
structure GoodE (last : BitVec 64) (e : Ev) : Prop where
  k : evOk e.k = true
  lo : last.toNat ≤ e.t.toNat
  hi : e.t.toNat ≤ 1125899906842624
  N : e.N.length = (evNames e.k).length
  n : ∀ n ∈ e.N, lenN n ≠ 0
  D : e.D.length ≤ 20
  nD : evData e.k = false → e.D = []
theorem take_put_ev {last : BitVec 64} {ev : Ev} (h : GoodE last ev) (r : Bs) : takeE (evB last ev ++ r) 0 last = (ev, r, 0) := by
  have h1 := h.lo
  have h2 := h.hi
  have hsub : (ev.t - last).toNat = ev.t.toNat - last.toNat := by rw [BitVec.toNat_sub]; omega
  have hadd : last + (ev.t - last) = ev.t := by
    apply BitVec.eq_of_toNat_eq
    rw [BitVec.toNat_add, hsub]; omega
  have hl1 : lenN (BitVec.setWidth 64 ev.k) ≠ 0 := lenN_lt (by rw [BitVec.toNat_setWidth]; have := ev.k.isLt; omega)
  have hl2 : lenN (ev.t - last) ≠ 0 := lenN_lt (by omega)
  have hb : evB last ev ++ r = putL (BitVec.setWidth 64 ev.k) ++ (putL (ev.t - last) ++ (putAll ev.N ++ ((if evData ev.k = true then longL ev.D else []) ++ r))) := by
    unfold evB
    show ((putL _ ++ (putL _ ++ [])) ++ putAll ev.N ++ _) ++ r = _
    simp only [List.append_assoc, List.append_nil]
  have hM : (1125899906842624#64).toNat = 1125899906842624 := rfl
  rw [hb]
  unfold takeE
  rw [least_put hl1]
  dsimp only
  rw [if_neg (by decide), kind_put, h.k]
  show take1 ev.k last (_, 0) = _
  rw [take1_eq (least_put hl2 _), hadd, decide_eq_false (by rw [BitVec.lt_def]; omega)]
  show take2 ev.k ev.t (_, 0) = _
  unfold take2
  dsimp only
  rw [← h.N, numsR_put _ _ h.n]
  exact take3_put r h.D h.nD
end Ev
end Go.Proofs.Ytdakmieapdpidaa
end

section
/-
  Lists of events as bytes and back: the plain law. No condition.
-/
namespace Go.Proofs.Ytdakmieapdpidaa
set_option linter.unusedVariables false
namespace Ev
open Vi Sha
def catE : BitVec 64 → List Ev → Bs
  | _, [] => []
  | last, e :: r => evB last e ++ catE e.t r
def GoodL : BitVec 64 → List Ev → Prop
  | _, [] => True
  | last, e :: r => GoodE last e ∧ (e.k = 19#8 → r = []) ∧ GoodL e.t r
theorem GoodE.check {last : BitVec 64} {e : Ev} (h : GoodE last e) : checkM e = 0 ∧ ¬ e.t < last := by
  have hM : (1125899906842624#64).toNat = 1125899906842624 := rfl
  have hT : (4611686018427387903#64).toNat = 4611686018427387903 := rfl
  have h1 := h.hi
  have h2 := h.lo
  have h3 := h.D
  refine ⟨?_, by rw [BitVec.lt_def]; omega⟩
  unfold checkM
  rw [if_neg (by rw [h.k]; decide), if_neg (by rw [BitVec.lt_def]; omega), if_neg (fun hc => hc h.N), if_neg (by omega), if_neg, if_neg]
  · rintro ⟨n, hn, hb⟩
    have h4 := h.n n hn
    have := lenN_spec n
    rw [BitVec.lt_def] at hb
    omega
  · rintro ⟨hc, hd⟩
    rw [h.nD hd] at hc
    exact absurd hc (by decide)
theorem good_of {last : BitVec 64} {e : Ev} (h : checkM e = 0) (ht : ¬ e.t < last) : GoodE last e := by
  have hok := check_ok h
  rw [BitVec.lt_def] at ht
  refine ⟨hok.k, by omega, hok.t, ?_, hok.n, hok.D, fun hd => ?_⟩
  · unfold checkM at h
    rw [if_neg (by rw [hok.k]; decide)] at h
    by_cases h2 : 1125899906842624#64 < e.t
    · rw [if_pos h2] at h; cases h
    rw [if_neg h2] at h
    by_cases h3 : e.N.length ≠ (evNames e.k).length
    · rw [if_pos h3] at h; cases h
    omega
  · unfold checkM at h
    rw [if_neg (by rw [hok.k]; decide)] at h
    by_cases h2 : 1125899906842624#64 < e.t
    · rw [if_pos h2] at h; cases h
    rw [if_neg h2] at h
    by_cases h3 : e.N.length ≠ (evNames e.k).length
    · rw [if_pos h3] at h; cases h
    rw [if_neg h3] at h
    by_cases h4 : 20 < e.D.length
    · rw [if_pos h4] at h; cases h
    rw [if_neg h4] at h
    by_cases h5 : 0 < e.D.length ∧ evData e.k = false
    · rw [if_pos h5] at h; cases h
    exact List.eq_nil_of_length_eq_zero (by
      rcases Nat.eq_zero_or_pos e.D.length with h6 | h6
      · exact h6
      · exact absurd ⟨h6, hd⟩ h5)
theorem encL_good : ∀ (es : List Ev) (last : BitVec 64) (b : Bs), GoodL last es → encL es last b = (b ++ catE last es, 0)
  | [], _, b, _ => by rw [encL, catE, List.append_nil]
  | e :: r, last, b, ⟨h1, h2, h3⟩ => by
    obtain ⟨c1, c2⟩ := h1.check
    rw [encL, if_neg (by omega), if_neg c2, if_neg (fun hc => hc.2 (h2 hc.1)), encL_good r e.t _ h3, catE, List.append_assoc]
theorem encL_back : ∀ (es : List Ev) (last : BitVec 64) (b : Bs) {c : Bs}, encL es last b = (c, 0) → GoodL last es ∧ c = b ++ catE last es
  | [], _, b, c, h => by
    rw [encL] at h
    simp only [Prod.mk.injEq] at h
    exact ⟨trivial, by rw [catE, List.append_nil]; exact h.1.symm⟩
  | e :: r, last, b, c, h => by
    rw [encL] at h
    by_cases h1 : checkM e ≠ 0
    · rw [if_pos h1] at h
      simp only [Prod.mk.injEq] at h
      exact absurd h.2 h1
    rw [if_neg h1] at h
    by_cases h2 : e.t < last
    · rw [if_pos h2] at h
      simp only [Prod.mk.injEq] at h
      exact absurd h.2 (by decide)
    rw [if_neg h2] at h
    by_cases h3 : e.k = 19#8 ∧ r ≠ []
    · rw [if_pos h3] at h
      simp only [Prod.mk.injEq] at h
      exact absurd h.2 (by decide)
    rw [if_neg h3] at h
    obtain ⟨g1, g2⟩ := encL_back r e.t _ h
    refine ⟨⟨good_of (by omega) h2, fun hk => ?_, g1⟩, by rw [g2, catE, List.append_assoc]⟩
    exact Decidable.byContradiction fun hr => h3 ⟨hk, hr⟩
theorem evsR_put : ∀ (es : List Ev) (last : BitVec 64) (r : Bs), GoodL last es → evsR es.length last (catE last es ++ r) 0 = (es, r, 0)
  | [], _, r, _ => rfl
  | e :: es, last, r, ⟨h1, h2, h3⟩ => by
    rw [List.length_cons, catE, List.append_assoc]
    have hf : failIf (decide (e.k = 19#8) && decide (es.length ≠ 0)) 10 (catE e.t es ++ r, 0) = (catE e.t es ++ r, 0) := by
      have : (decide (e.k = 19#8) && decide (es.length ≠ 0)) = false := by
        by_cases hk : e.k = 19#8
        · rw [h2 hk]; simp
        · rw [decide_eq_false hk]; rfl
      rw [this]; rfl
    rw [evsR_step (take_put_ev h1 _) hf, evsR_put es e.t r h3]
abbrev magicE : Bs := [66#8, 73#8, 78#8, 49#8]
theorem enc_back {es : List Ev} {b : Bs} (h : encM es = (b, 0)) : es.length ≤ 2048 ∧ GoodL 0#64 es ∧ b = magicE ++ (putL (BitVec.ofNat 64 es.length) ++ catE 0#64 es) := by
  unfold encM at h
  by_cases h1 : 2048 < es.length
  · rw [if_pos h1] at h
    simp only [Prod.mk.injEq] at h
    exact absurd h.2 (by decide)
  rw [if_neg h1] at h
  obtain ⟨g1, g2⟩ := encL_back es _ _ h
  refine ⟨by omega, g1, ?_⟩
  rw [g2]
  show (magicE ++ (putL _ ++ [])) ++ _ = _
  rw [List.append_nil, List.append_assoc]
theorem enc_of {es : List Ev} (h1 : es.length ≤ 2048) (h2 : GoodL 0#64 es) : encM es = (magicE ++ (putL (BitVec.ofNat 64 es.length) ++ catE 0#64 es), 0) := by
  unfold encM
  rw [if_neg (by omega), encL_good es _ _ h2]
  show ((magicE ++ (putL _ ++ [])) ++ _, (0 : Int)) = _
  rw [List.append_nil, List.append_assoc]
theorem dec_app {es : List Ev} {b : Bs} (h : encM es = (b, 0)) (r : Bs) : decM (b ++ r) = finD (es, r, 0) := by
  obtain ⟨h1, h2, rfl⟩ := enc_back h
  have hn : (BitVec.ofNat 64 es.length).toNat = es.length := by rw [BitVec.toNat_ofNat]; omega
  have hb : bytesM (magicE ++ (putL (BitVec.ofNat 64 es.length) ++ (catE 0#64 es ++ r))) 0 4 = (magicE, putL (BitVec.ofNat 64 es.length) ++ (catE 0#64 es ++ r), 0) := by
    unfold bytesM
    rw [if_neg (by decide), if_neg (by rw [List.length_append]; simp only [List.length_cons, List.length_nil]; omega)]
    rfl
  rw [List.append_assoc, List.append_assoc]
  unfold decM
  rw [hb]
  show dec2 (failIf (decide ((0 : Int) = 0) && decide (U8 magicE ≠ [66, 73, 78, 49])) 4 (_, 0)) = _
  rw [show (decide ((0 : Int) = 0) && decide (U8 magicE ≠ [66, 73, 78, 49])) = false by decide]
  show dec2 (_, 0) = _
  unfold dec2
  dsimp only
  rw [least_put (lenN_of (by omega))]
  dsimp only
  rw [decide_eq_false (by rw [BitVec.lt_def, hn]; have : (2048#64).toNat = 2048 := rfl; omega)]
  show dec3 _ (_, 0) = _
  unfold dec3
  dsimp only
  rw [hn, evsR_put es _ r h2]
theorem dec_enc {es : List Ev} {b : Bs} (h : encM es = (b, 0)) : decM b = (es, 0) := by
  have := dec_app h []
  rw [List.append_nil] at this
  rw [this]; rfl
end Ev
end Go.Proofs.Ytdakmieapdpidaa
end

section
/-
  Rows of events are good. No condition.
-/
namespace Go.Proofs.Ytdakmieapdpidaa
set_option linter.unusedVariables false
namespace Ev
open Vi Sha
/-- A last event that says that there were more. -/
theorem GoodL.snoc : ∀ {es : List Ev} {last : BitVec 64} {x : Ev}, GoodL last es → (∀ e ∈ es, e.k ≠ 19#8) → GoodE (match es.getLast? with | some e => e.t | none => last) x → GoodL last (es ++ [x])
  | [], last, x, _, _, h => ⟨h, fun _ => rfl, trivial⟩
  | e :: r, last, x, ⟨h1, h2, h3⟩, hk, hx => by
    refine ⟨h1, fun h => absurd h (hk e (List.mem_cons_self ..)), GoodL.snoc h3 (fun y hy => hk y (List.mem_cons_of_mem _ hy)) ?_⟩
    cases r with
    | nil => exact hx
    | cons y r =>
      rw [List.getLast?_cons_cons] at hx
      cases hl : (y :: r).getLast? with
      | none => simp at hl
      | some z => rw [hl] at hx; exact hx
end Ev
end Go.Proofs.Ytdakmieapdpidaa
end

section
/-
  The document's numbers of one, two, four or eight bytes. No condition.
-/
namespace Go.Proofs.Ytdakmieapdpidaa
set_option linter.unusedVariables false
namespace Vi
open Sha
end Vi
namespace Sx
open Sha Vi

end Sx
end Go.Proofs.Ytdakmieapdpidaa
end

section
/-
  Events' bytes as they are meant: binnaclelaw25.encoded. No condition.
-/
namespace Go.Proofs.Ytdakmieapdpidaa
set_option linter.unusedVariables false
namespace Ev
open Vi Sha
def encB (es : List Ev) : Bs := magicE ++ (putL (BitVec.ofNat 64 es.length) ++ catE 0#64 es)
end Ev
namespace Sx
open Go.RowKit Sha Vi Ev

end Sx
end Go.Proofs.Ytdakmieapdpidaa
end

section
/-
  Rows of no events; frozen rows. No condition.
-/
namespace Go.Proofs.Ytdakmieapdpidaa
set_option linter.unusedVariables false
namespace Sx
open Go.RowKit Sha Vi Ev

end Sx
end Go.Proofs.Ytdakmieapdpidaa
end

section
/-
  The law BlogBytes. No condition.
-/
namespace Go.Proofs.Ytdakmieapdpidaa
set_option linter.unusedVariables false
namespace Sx
open Go.RowKit Sha Vi Ev

end Sx
end Go.Proofs.Ytdakmieapdpidaa
end

section
/-
  The law BlogBytes, some events. No condition.
-/
namespace Go.Proofs.Ytdakmieapdpidaa
set_option linter.unusedVariables false
namespace Sx
open Go.RowKit Sha Vi Ev

theorem mp_row {g : Nat → Nat} {N : Nat} {cs : List SC} (h : ∀ x ∈ cs, x.raw = x) : mpL g [.row N (nthC cs)] = [.row N (nthC cs)] := by
  show [Seg.row N (fun j => SC.mp g (nthC cs j))] = _
  congr 2
  funext j
  rcases Nat.lt_or_ge j cs.length with hj | hj
  · exact mp_raw (h _ (nthC_mem hj))
  · rw [nthC_out hj]; rfl
end Sx
end Go.Proofs.Ytdakmieapdpidaa
end

section
/-
  The law BlogBytes, some events, cut. No condition.
-/
namespace Go.Proofs.Ytdakmieapdpidaa
set_option linter.unusedVariables false
namespace Sx
open Go.RowKit Sha Vi Ev

theorem RowAt.frzF {W0 W : World} {ms0 ms : List Nat} {A : Addr} {F : Nat → Bool} {α : Nat → Addr} {n c : Nat} {cs : List SC} {es : List Ev} (k : RowAt W0 ms0 cs es) (hL : Later W0 ms0 W ms) {f : Nat → SC} (hf : ∀ j, j < cs.length → f j = nthC cs j)
    (h : flat [.row (scale c (3 + 1)) f] ≠ [] → ImAt W ms A (((flat [.row (scale c (3 + 1)) f]).map (SC.rz F α)).map SC.raw)) (hn : es.length = n) (hc : n ≤ c) (hcap : n ≤ 9223372036854775807) : EvsAt W ms (some (A.add (0 + 0))) n c es := by
  refine ⟨hn, hc, hcap, (fun e => by cases e), fun B hB j e he => ?_⟩
  injection hB with hB
  subst hB
  obtain ⟨x, h1, h2⟩ := k.elt j e he
  have hj : j < n := by rw [← hn]; exact (List.getElem?_eq_some_iff.1 he).1
  have hne : flat [.row (scale c (3 + 1)) f] ≠ [] := by
    intro e
    have := congrArg List.length e
    simp [flat, sc4] at this
    omega
  refine ⟨x, (((h hne).part (0 + 0) (m := ((flat [.row (scale c (3 + 1)) f]).map (SC.rz F α)).map SC.raw) (fun j x hx => by simpa using hx)).part (j * 4) fun i y hy => ?_), h2.later hL⟩
  have hi : i < 4 := (List.getElem?_eq_some_iff.1 hy).1
  have hcs := h1 i y hy
  have hlen := k.len
  have hjn : j * 4 + i < scale c (3 + 1) := by rw [sc4]; omega
  rw [List.getElem?_map, List.getElem?_map]
  simp only [flat, List.append_nil, List.getElem?_map, List.getElem?_range hjn, Option.map_some]
  have hraw := k.raw y (List.mem_of_getElem? hcs)
  rw [hf _ (List.getElem?_eq_some_iff.1 hcs).1, nthC_get? hcs, rz_raw hraw]
end Sx
end Go.Proofs.Ytdakmieapdpidaa
end

section
/-
  The law BlogBytes, any events. No condition.
-/
namespace Go.Proofs.Ytdakmieapdpidaa
set_option linter.unusedVariables false
namespace Sx
open Go.RowKit Sha Vi Ev

end Sx
end Go.Proofs.Ytdakmieapdpidaa
end

section
/-
  From a function over blocks to a law's walk: arguments opened. Over any program. No condition of its own.
-/
namespace Go.Proofs.Ytdakmieapdpidaa
set_option linter.unusedVariables false
namespace Sx
open Go.RowKit Go.ChangeShapes Go.WideShapes

section
variable {H : Type} {enc : TypeId × Value → H} {P : Program} {w : World} {base : Nat} {sp : Nat → Bool} {held : Bool}
theorem wf_w8 {a : Int} (h : (Lit.int .u8 a).wf = true) : a = ((BitVec.ofInt 8 a).toNat : Int) := by
  have := bounds_u8 h
  rw [BitVec.toNat_ofInt]
  omega
end
theorem isAs_nil (r : Rho) : IsAs r [] [] := ⟨rfl, fun j x e => by simp at e⟩
theorem isAs_cons {r : Rho} {x : SA} {v : Value} {l : List SA} {vs : List Value} (h : SA.Is r x v) (hs : IsAs r l vs) : IsAs r (x :: l) (v :: vs) :=
  ⟨by simpa using hs.1, fun j y e => by
    cases j with
    | zero => simp at e; subst e; exact ⟨v, rfl, h⟩
    | succ j => exact hs.2 j y e⟩
/-- A law's walk. -/
theorem Fn.law {P : Program} {T : List (Nat × TD)} {f : FuncId} {args : List SA} {raw : World → Prop} (h : Fn P T f [] args raw (fun x hs => x = .a (.c (.bool true)) ∧ hs = [])) {w : World} {vs : List Value} (ha : IsAs [] args vs) (hr : raw w) :
    Calls P f vs.toArray w fun e w' => e = .returned (.bool true) ∧ Below w.heap.size w w' := by
  refine (Fn.calls h ha hr).mono ?_
  rintro e w' ⟨v, x, hs, r', rfl, hx, hok, rfl, rfl⟩
  obtain rfl : v = .bool true := hx
  exact ⟨rfl, hok.ext.below0⟩
end Sx
end Go.Proofs.Ytdakmieapdpidaa
end

section
/-
  Numbers of sixteen bits as arguments. Over any program. No condition of its own.
-/
namespace Go.Proofs.Ytdakmieapdpidaa
set_option linter.unusedVariables false
namespace Sx
open Go.ChangeShapes

theorem wf_w64 {a : Int} (h : (Lit.int .u64 a).wf = true) : a = ((BitVec.ofInt 64 a).toNat : Int) := by
  have := bounds_u64 h
  rw [BitVec.toNat_ofInt]
  omega
end Sx
end Go.Proofs.Ytdakmieapdpidaa
end

section
/-
  From a function over blocks that are only read to a law's walk: slices of bytes that came in. Over any program. No condition of its own.
-/
namespace Go.Proofs.Ytdakmieapdpidaa
set_option linter.unusedVariables false
namespace Sx
open Go.RowKit Go.ChangeShapes Go.WideShapes Sha

theorem okWide_spot {P : Program} {w : World} {r : Reach} {b0 : Nat} {t e : TypeId} {a : Option Addr} {n c : Nat} (ht : P.underlying t = some (.slice e)) (h : Value.okWide P w r b0 t (.slice a n c)) : ∀ x, a = some x → x.spot = none := by
  rintro x rfl
  simp only [Value.okWide, ht, Cell.okWide, Cell.ok] at h
  exact h.2.2.2.1
/-- A slice of bytes that came in: nil (z) or not, its bytes, where they lie. -/
structure InB (w : World) (a : Option Addr) (n c : Nat) (z : Bool) (l : Bs) (B f : Nat) : Prop where
  len : l.length = n
  le : n ≤ c
  cap : c ≤ maxLen
  nil : z = true → l = []
  val : ∀ (r : Rho) (i : Nat), r[i]? = some (B, f) → SC.Is r (.sn z i 0 0 n c) (.slice a n c)
  at_ : ∀ r : Rho, At false r w B f (flat (bts z n 0 n (L l)))
theorem open_b8 {w : World} {a : Option Addr} {len cap : Nat} {zs : List Int} (h : IsRow .u8 w a len cap zs) (hs : ∀ x, a = some x → x.spot = none) : ∃ z l B f, InB w a len cap z l B f := by
  rcases h with ⟨rfl, rfl, rfl, rfl⟩ | ⟨x, rfl, hl, hm, hz, hc, hw⟩
  · exact ⟨true, [], 0, 0, rfl, Nat.le_refl _, by unfold maxLen; omega, fun _ => rfl, fun r i _ => .inl ⟨rfl, rfl, rfl, rfl⟩, fun r j y e => by simp [bts, flat] at e⟩
  · obtain ⟨B, f, spot⟩ := x
    obtain rfl : spot = none := hs _ rfl
    refine ⟨false, (zs.take len).map (BitVec.ofInt 8), B, f, by simp; omega, hl, hm, fun h => Bool.noConfusion h, fun r i hr => .inr (.inl ⟨rfl, B, f, hr, rfl⟩), fun r j y e => ?_⟩
    have hj : j < len := by
      rcases Nat.lt_or_ge j len with h | h
      · exact h
      · rw [List.getElem?_eq_none (by simpa [bts, flat] using h)] at e; cases e
    have e2 : y = .w8 (L ((zs.take len).map (BitVec.ofInt 8)) j) := by
      simp only [bts, flat, List.append_nil, List.getElem?_map, Option.map_eq_some_iff] at e
      obtain ⟨i, hi, rfl⟩ := e
      rw [List.getElem?_range (by omega)] at hi
      injection hi with hi
      subst hi
      have := winF_at 0 len (L ((zs.take len).map (BitVec.ofInt 8))) hj
      rwa [Nat.zero_add] at this
    subst e2
    have hc1 := hc j (by omega)
    have ha : (⟨B, f, none⟩ : Addr).add j = ⟨B, f + j, none⟩ := by unfold Addr.add; simp
    rw [ha] at hc1
    refine ⟨_, hc1, ?_, fun h => Bool.noConfusion h⟩
    show Value.int .u8 _ = Value.int .u8 _
    congr 1
    have hjz : j < zs.length := by omega
    have h3 : zs.getD j 0 = zs[j] := by rw [List.getD_eq_getElem?_getD, List.getElem?_eq_getElem hjz]; rfl
    have h4 : L ((zs.take len).map (BitVec.ofInt 8)) j = BitVec.ofInt 8 zs[j] := by
      rw [L_lt (by simp; omega)]
      simp
    rw [h3, h4]
    exact wf_w8 (hw _ (List.getElem_mem _))
/-- The blocks lie where r says. -/
def AllAt (R : Rho) (w : World) : List (List Seg) → Rho → Prop
  | [], [] => True
  | ch :: h, (B, f) :: r => At false R w B f (flat ch) ∧ AllAt R w h r
  | _, _ => False
theorem AllAt.len {R : Rho} {w : World} : ∀ {h : List (List Seg)} {r : Rho}, AllAt R w h r → r.length = h.length
  | [], [], _ => rfl
  | _ :: h, _ :: r, k => by rw [List.length_cons, List.length_cons, AllAt.len k.2]
  | [], _ :: _, k => k.elim
  | _ :: _, [], k => k.elim
theorem AllAt.get {R : Rho} {w : World} : ∀ {h : List (List Seg)} {r : Rho}, AllAt R w h r → ∀ (i : Nat) (ch : List Seg) (B f : Nat), h[i]? = some ch → r[i]? = some (B, f) → At false R w B f (flat ch)
  | [], [], _, i, _, _, _, e, _ => by simp at e
  | c :: h, (B', f') :: r, k, 0, _, _, _, e1, e2 => by
    simp at e1 e2
    obtain ⟨rfl, rfl⟩ := e2
    subst e1
    exact k.1
  | c :: h, (B', f') :: r, k, i + 1, _, _, _, e1, e2 => k.2.get i _ _ _ (by simpa using e1) (by simpa using e2)
theorem heapOk_ro {P : Program} {T : List (Nat × TD)} {w : World} {r0 : Rho} {h0 : List (List Seg)} (hat : AllAt r0 w h0 r0) (hp : ∀ (i : Nat) (W : World) (ms : List Nat), h0[i]? = some [.past W ms] → W = w) : HeapOk (cx0 P T w r0 h0.length h0) h0 r0 w := by
  have hlen := hat.len
  have hget : ∀ i, h0[i]? = some (getH h0 i) ∨ h0[i]? = none := fun i => by
    rcases Nat.lt_or_ge i h0.length with h | h
    · exact .inl (by rw [List.getElem?_eq_getElem h]; have := getH_eq h0 i; rw [List.getElem?_eq_getElem h] at this; simpa using this.symm)
    · exact .inr (List.getElem?_eq_none h)
  have out : ∀ (i : Nat) (x : Nat × Nat), h0.length ≤ i → r0[i]? = some x → False := fun i x hi e => by
    rw [List.getElem?_eq_none (by omega)] at e; cases e
  refine ⟨Ext.refl _ _, RLe.refl _, Nat.le_of_eq hlen.symm, hlen, fun i ch B f hi hr => ?_, fun i B f ho hr => (out i _ ho hr).elim, fun i B f ho hr => (out i _ ho hr).elim, fun i B f ho hl hr => ?_, fun i ch ho hl hi => ?_, fun i j B f f' ch ch' hij o1 o2 h1 h2 r1 r2 => (out i _ o1 r1).elim, fun i m B f ho _ hr => (out i _ ho hr).elim, fun i W ms hi => ?_⟩
  · have hil : i < h0.length := (List.getElem?_eq_some_iff.1 hi).1
    have : Nat.ble h0.length i = false := by
      cases e : Nat.ble h0.length i
      · rfl
      · have := ble_le e; omega
    show At (Nat.ble h0.length i) _ _ _ _ _
    rw [this]
    exact hat.get i ch B f hi hr
  · refine ⟨?_, ?_⟩
    · show B ∉ (r0.drop h0.length).map (·.1)
      rw [List.drop_eq_nil_of_le (by omega)]
      simp
    · rcases hget i with e | e
      · exact (hat.get i _ B f e hr).lt hl
      · rw [List.getElem?_eq_none_iff] at e
        exact (out i _ e hr).elim
  · have hl : ¬ flat (getH h0 i) ≠ [] := hl
    rcases hget i with e | e
    · rw [hi] at e
      injection e with e
      rw [e]
      exact Classical.not_not.1 hl
    · rw [hi] at e; cases e
  · obtain rfl := hp i W ms hi
    exact ⟨Ext.refl _ _, fun B _ h2 h3 => ⟨i, _, ms, hi, h2, h3⟩, fun j B f ho hr => (out j _ ho hr).elim⟩
def NoPast : List (List Seg) → Prop
  | [] => True
  | l :: r => (∀ W ms, l ≠ [.past W ms]) ∧ NoPast r
theorem NoPast.get {w : World} : ∀ {h : List (List Seg)}, NoPast h → ∀ (i : Nat) (W : World) (ms : List Nat), h[i]? = some [.past W ms] → W = w
  | [], _, i, _, _, e => by simp at e
  | l :: h, k, 0, W, ms, e => by simp at e; exact absurd e (k.1 W ms)
  | l :: h, k, i + 1, W, ms, e => NoPast.get k.2 i W ms (by simpa using e)
theorem bts_np (z : Bool) (N o n : Nat) (b : Nat → BitVec 8) (W : World) (ms : List Nat) : bts z N o n b ≠ [.past W ms] := by
  cases z <;> (intro e; simp [bts] at e)
/-- A law's walk: what came in is only read. -/
theorem FnR.law {P : Program} {T : List (Nat × TD)} {f : FuncId} {n : Nat} {h0 : List (List Seg)} {args : List SA} {raw : World → Prop} {w : World} {vs : List Value} {r0 : Rho} (h : FnR P T f n h0 args raw (fun x _ => x = .a (.c (.bool true)))) (hn : n = h0.length)
    (hat : AllAt r0 w h0 r0) (ha : IsAs r0 args vs) (hr : raw w) (hp : NoPast h0 := by (repeat' first | exact trivial | refine And.intro ?_ ?_ | exact Go.Proofs.Ytdakmieapdpidaa.Sx.bts_np _ _ _ _ _ | (intro W ms e; cases e))) :
    Calls P f vs.toArray w fun e w' => e = .returned (.bool true) ∧ Below w.heap.size w w' := by
  subst hn
  refine (h w r0 vs (heapOk_ro hat hp.get) ha hr).mono ?_
  rintro e w' ⟨v, x, hs, r', rfl, hx, hok, rfl⟩
  obtain rfl : v = .bool true := hx
  refine ⟨rfl, ?_⟩
  have e : Ext ((r0.drop h0.length).map (·.1)) w w' := hok.ext
  rw [List.drop_eq_nil_of_le (by rw [hat.len]; exact Nat.le_refl _)] at e
  exact e.below0
end Sx
end Go.Proofs.Ytdakmieapdpidaa
end

section
/-
  From a function over blocks to a law's walk: structs with slices of bytes that came in. Over any program. No condition of its own.
-/
namespace Go.Proofs.Ytdakmieapdpidaa
set_option linter.unusedVariables false
namespace Sx
open Go.RowKit Go.ChangeShapes Go.WideShapes Sha Vi

theorem isL_nil (r : Rho) : IsL r [] [] := ⟨rfl, fun j x e => by simp at e⟩
theorem isL_cons {r : Rho} {x : SC} {v : Value} {l : List SC} {vs : List Value} (h : x.Is r v) (hs : IsL r l vs) : IsL r (x :: l) (v :: vs) :=
  ⟨by simpa using hs.1, fun j y e => by
    cases j with
    | zero => simp at e; subst e; exact ⟨v, rfl, h⟩
    | succ j => exact hs.2 j y e⟩
/-- What slices of bytes keep to, however long. -/
structure Sl.Fit (s : Sl) : Prop where
  fit : s.o + s.l.length ≤ s.N
  cap : s.l.length ≤ s.c
  nil : s.z = true → s.l = []
theorem Sl.Fit.ok {s : Sl} (h : s.Fit) (hs : s.l.length ≤ 1000000) : s.Ok := ⟨h.fit, h.cap, h.nil, hs⟩
/-- A slice that came in. -/
abbrev slI (z : Bool) (c : Nat) (l : Bs) : Sl := ⟨z, l.length, 0, c, l⟩
theorem InB.fit {w : World} {a : Option Addr} {n c : Nat} {z : Bool} {l : Bs} {B f : Nat} (h : InB w a n c z l B f) : (slI z c l).Fit :=
  ⟨by simp, by have := h.len; have := h.le; show l.length ≤ c; omega, h.nil⟩
end Sx
end Go.Proofs.Ytdakmieapdpidaa
end

section
/-
  A law whose arguments are raw; events as arguments, opened. No condition.
-/
namespace Go.Proofs.Ytdakmieapdpidaa
set_option linter.unusedVariables false
namespace Sx
open Go.RowKit Go.ChangeShapes Go.WideShapes Sha Vi Ev

theorem FnR.lawP {P : Program} {T : List (Nat × TD)} {f : FuncId} {args : List SA} {w : World} {vs : List Value} (h : FnR P T f 1 [[.past w []]] args (fun _ => True) (fun x _ => x = .a (.c (.bool true))))
    (ha : IsAs [(0, 0)] args vs) : Calls P f vs.toArray w fun e w' => e = .returned (.bool true) ∧ Below w.heap.size w w' := by
  have hat : AllAt [(0, 0)] w [[.past w []]] [(0, 0)] := ⟨fun j x e => by simp [flat] at e, trivial⟩
  refine (h w [(0, 0)] vs (heapOk_ro hat (fun i W ms e => ?_)) ha trivial).mono ?_
  · cases i with
    | zero => simp at e; exact e.1.symm
    | succ i => simp at e
  · rintro e w' ⟨v, x, hs, r', rfl, hx, hok, rfl⟩
    obtain rfl : v = .bool true := hx
    refine ⟨rfl, ?_⟩
    have e : Ext (([((0 : Nat), (0 : Nat))].drop 1).map (·.1)) w w' := hok.ext
    exact e.below0
theorem cell_block {w : World} {a : Addr} {v : Value} (h : w.cell? a = some v) : a.block < w.heap.size := by
  unfold World.cell? at h
  rcases Nat.lt_or_ge a.block w.heap.size with hb | hb
  · exact hb
  · rw [Array.getElem?_eq_none hb] at h; cases h
theorem row_bs {w : World} {a : Option Addr} {n c : Nat} {zs : List Int} (h : IsRow .u8 w a n c zs) (hs : ∀ x, a = some x → x.spot = none) : ∃ l : Bs, BsAt w [] a n c l := by
  obtain ⟨z, l, B, f, hI⟩ := open_b8 h hs
  rcases h with ⟨rfl, rfl, rfl, rfl⟩ | ⟨x, rfl, hl, hm, hz, hc, hw⟩
  · exact ⟨[], SlAt.nul⟩
  · obtain ⟨B, f, spot⟩ := x
    obtain rfl : spot = none := hs _ rfl
    have hcap := hI.cap
    refine ⟨(zs.take n).map (BitVec.ofInt 8), by simp; omega, hl, by unfold maxLen at hcap; omega, (fun e => by cases e), fun x e h0 => ?_⟩
    injection e with e
    subst e
    refine ⟨rfl, ?_, List.not_mem_nil, fun j y e => ?_⟩
    · have := cell_block (hc 0 (by omega))
      simpa [Addr.add] using this
    · have hj : j < n := by
        have := (List.getElem?_eq_some_iff.1 e).1
        simp at this; omega
      have hjz : j < zs.length := by omega
      have ha : (⟨B, f, none⟩ : Addr).add j = ⟨B, f + j, none⟩ := by unfold Addr.add; simp
      have hc1 := hc j (by omega)
      rw [ha] at hc1
      refine ⟨_, hc1, ?_⟩
      rw [List.getElem?_map, List.getElem?_map, List.getElem?_take, if_pos hj, List.getElem?_eq_getElem hjz] at e
      simp only [Option.map_some, Option.some.injEq] at e
      subst e
      show Value.int .u8 _ = Value.int .u8 _
      congr 1
      have h3 : zs.getD j 0 = zs[j] := by rw [List.getD_eq_getElem?_getD, List.getElem?_eq_getElem hjz]; rfl
      rw [h3]
      exact wf_w8 (hw _ (List.getElem_mem _))
theorem row_ns {w : World} {a : Option Addr} {n c : Nat} {zs : List Int} (h : IsRow .u64 w a n c zs) (hs : ∀ x, a = some x → x.spot = none) : ∃ l : List (BitVec 64), NsAt w [] a n c l := by
  rcases h with ⟨rfl, rfl, rfl, rfl⟩ | ⟨x, rfl, hl, hm, hz, hc, hw⟩
  · exact ⟨[], SlAt.nul⟩
  · obtain ⟨B, f, spot⟩ := x
    obtain rfl : spot = none := hs _ rfl
    have hcap : c ≤ maxLen := hm
    refine ⟨(zs.take n).map (BitVec.ofInt 64), by simp; omega, hl, by unfold maxLen at hcap; omega, (fun e => by cases e), fun x e h0 => ?_⟩
    injection e with e
    subst e
    refine ⟨rfl, ?_, List.not_mem_nil, fun j y e => ?_⟩
    · have := cell_block (hc 0 (by omega))
      simpa [Addr.add] using this
    · have hj : j < n := by
        have := (List.getElem?_eq_some_iff.1 e).1
        simp at this; omega
      have hjz : j < zs.length := by omega
      have ha : (⟨B, f, none⟩ : Addr).add j = ⟨B, f + j, none⟩ := by unfold Addr.add; simp
      have hc1 := hc j (by omega)
      rw [ha] at hc1
      refine ⟨_, hc1, ?_⟩
      rw [List.getElem?_map, List.getElem?_map, List.getElem?_take, if_pos hj, List.getElem?_eq_getElem hjz] at e
      simp only [Option.map_some, Option.some.injEq] at e
      subst e
      show Value.int .u64 _ = Value.int .u64 _
      congr 1
      have h3 : zs.getD j 0 = zs[j] := by rw [List.getD_eq_getElem?_getD, List.getElem?_eq_getElem hjz]; rfl
      rw [h3]
      exact wf_w64 (hw _ (List.getElem_mem _))
section
variable {H : Type} {enc : TypeId × Value → H} {P : Program} {w : World} {base : Nat} {held : Bool}
theorem raw_b8 {t e : TypeId} {fuel : Nat} {cs : List Value} {y : DataW H × List MemPlace} (ht : P.underlying t = some (.slice e)) (he : P.underlying e = some (.int .u8)) (hc : P.cellsOf e = 1)
    (h : DataW.trod enc P w base (fun _ => true) held fuel t cs = some y) : ∃ (a : Option Addr) (n c : Nat) (l : Bs), cs = [.slice a n c] ∧ BsAt w [] a n c l := by
  rcases open_ints ht he hc h with ⟨rfl, _⟩ | ⟨x, n, c, zs, rfl, _, hl, hm, hz, _, hcell, hwz⟩
  · exact ⟨none, 0, 0, [], rfl, SlAt.nul⟩
  · have hz : zs.length = c := by simpa using hz
    rcases Nat.eq_zero_or_pos c with hc0 | hc0
    · subst hc0
      obtain rfl : n = 0 := by omega
      exact ⟨_, 0, 0, [], rfl, by simp, Nat.le_refl _, by decide, fun _ => rfl, fun x e h0 => absurd rfl h0⟩
    · obtain ⟨l, hl⟩ := row_bs (w := w) (n := n) (c := c) (zs := zs) (.inr ⟨x, rfl, hl, hm, hz, fun i hi => hcell i hi, hwz⟩) (fun y e => by
        cases e
        have := World.cell?_spot (hcell 0 (by omega))
        simpa [Addr.add] using this)
      exact ⟨_, n, c, l, rfl, hl⟩
theorem raw_n64 {t e : TypeId} {fuel : Nat} {cs : List Value} {y : DataW H × List MemPlace} (ht : P.underlying t = some (.slice e)) (he : P.underlying e = some (.int .u64)) (hc : P.cellsOf e = 1)
    (h : DataW.trod enc P w base (fun _ => true) held fuel t cs = some y) : ∃ (a : Option Addr) (n c : Nat) (l : List (BitVec 64)), cs = [.slice a n c] ∧ NsAt w [] a n c l := by
  rcases open_ints ht he hc h with ⟨rfl, _⟩ | ⟨x, n, c, zs, rfl, _, hl, hm, hz, _, hcell, hwz⟩
  · exact ⟨none, 0, 0, [], rfl, SlAt.nul⟩
  · have hz : zs.length = c := by simpa using hz
    rcases Nat.eq_zero_or_pos c with hc0 | hc0
    · subst hc0
      obtain rfl : n = 0 := by omega
      exact ⟨_, 0, 0, [], rfl, by simp, Nat.le_refl _, by decide, fun _ => rfl, fun x e h0 => absurd rfl h0⟩
    · obtain ⟨l, hl⟩ := row_ns (w := w) (n := n) (c := c) (zs := zs) (.inr ⟨x, rfl, hl, hm, hz, fun i hi => hcell i hi, hwz⟩) (fun y e => by
        cases e
        have := World.cell?_spot (hcell 0 (by omega))
        simpa [Addr.add] using this)
      exact ⟨_, n, c, l, rfl, hl⟩
end
section
theorem isL_head {r : Rho} {x : SC} {v : Value} (h : IsL r [x] [v]) : x.Is r v := by
  obtain ⟨u, e, hu⟩ := h.2 0 x rfl
  injection e with e
  rw [e]; exact hu
variable {H : Type} {enc : TypeId × Value → H} {w : World} {base : Nat} {held : Bool}
theorem one_k8 {P : Program} {t : TypeId} {fuel : Nat} {cs : List Value} {y : DataW H × List MemPlace} (ht : P.underlying t = some (.int .u8)) (h : DataW.trod enc P w base (fun _ => true) held fuel t cs = some y) : ∃ b : BitVec 8, ∀ r : Rho, IsL r [.w8 b] cs := by
  obtain ⟨x, rfl, _, wx⟩ := DataW.trod_int ht h
  exact ⟨BitVec.ofInt 8 x, fun r => isL_cons (congrArg _ (wf_w8 wx)) (isL_nil r)⟩
theorem one_t64 {P : Program} {t : TypeId} {fuel : Nat} {cs : List Value} {y : DataW H × List MemPlace} (ht : P.underlying t = some (.int .u64)) (h : DataW.trod enc P w base (fun _ => true) held fuel t cs = some y) : ∃ b : BitVec 64, ∀ r : Rho, IsL r [.w64 b] cs := by
  obtain ⟨x, rfl, _, wx⟩ := DataW.trod_int ht h
  exact ⟨BitVec.ofInt 64 x, fun r => isL_cons (congrArg _ (wf_w64 wx)) (isL_nil r)⟩
set_option maxRecDepth 100000 in
theorem open_ev {fuel : Nat} {cs : List Value} {y : DataW H × List MemPlace} (hl : cs.length = 4) (hf : DataW.trod enc Try.prog w base (fun _ => true) held fuel 28 cs = some y) :
    ∃ (e : Ev) (x : EvC), EvAt w [] x e ∧ ∀ r : Rho, IsL r (flat (evS e x)) cs := by
  obtain ⟨xs, n, _, _, _, hxl, hg⟩ := DataW.trod_struct Try.underlying28 hf
  match cs, hl with
  | [c0, c1, c2, c3], _ =>
    match xs, hxl with
    | [y0, y1, y2, y3], _ =>
      obtain ⟨k, h0⟩ := one_k8 (P := Try.prog) (cs := [c0]) (y := y0) Try.underlying24 (hg 0 _ rfl)
      obtain ⟨t, h1⟩ := one_t64 (P := Try.prog) (cs := [c1]) (y := y1) Try.underlying25 (hg 1 _ rfl)
      obtain ⟨aN, nN, cN, N, e2, hN⟩ := raw_n64 (P := Try.prog) (cs := [c2]) (y := y2) Try.underlying26 Try.underlying25 (by kernel_rfl) (hg 2 _ rfl)
      obtain ⟨aD, nD, cD, D, e3, hD⟩ := raw_b8 (P := Try.prog) (cs := [c3]) (y := y3) Try.underlying23 Try.underlying5 (by kernel_rfl) (hg 3 _ rfl)
      injection e2 with e2; injection e3 with e3
      subst e2; subst e3
      exact ⟨⟨k, t, N, D⟩, ⟨aN, nN, cN, aD, nD, cD⟩, ⟨hN, hD⟩, fun r => isL_cons (isL_head (h0 r)) (isL_cons (isL_head (h1 r)) (isL_cons rfl (isL_cons rfl (isL_nil r))))⟩
set_option maxRecDepth 100000 in
theorem open_evs {rc : Reach} {b0 : Nat} {v : Value} {d : DataW H} {p : List MemPlace} (hval : Value.okWide Try.prog w rc b0 22 v) (h : DataW.Trod enc Try.prog w base (fun _ => true) held 22 v d p) :
    ∃ (a : Option Addr) (n c : Nat) (es : List Ev), v = .slice a n c ∧ EvsAt w [] a n c es := by
  obtain ⟨a0, n0, c0, rfl⟩ := okWide_slice Try.underlying22 hval
  have hspot := okWide_spot Try.underlying22 hval
  obtain ⟨fuel, hf⟩ := h
  rcases DataW.trod_slice Try.underlying22 hf with ⟨hcs, _⟩ | ⟨a, len, cap, elems, rest, m, _, hcs, _, hb, hl, hm, hlen, hel, _, _⟩
  · simp [Value.cells] at hcs
    obtain ⟨rfl, rfl, rfl⟩ := hcs
    exact ⟨none, 0, 0, [], rfl, EvsAt.nul⟩
  simp [Value.cells] at hcs
  obtain ⟨rfl, rfl, rfl⟩ := hcs
  have hsz : Try.prog.cellsOf 28 = 4 := by kernel_rfl
  rw [hsz] at hel
  obtain ⟨B, f, sp⟩ := a
  obtain rfl : sp = none := hspot _ rfl
  have each : ∀ k, ∃ y : Ev, k < n0 → ∃ x, ImAt w [] ((⟨B, f, none⟩ : Addr).add (k * 4)) (flat (evS y x)) ∧ EvAt w [] x y := by
    intro k
    by_cases hk : k < n0
    · have h1 := hel k hk
      rw [List.getElem?_eq_getElem (by omega), Option.bind_eq_some_iff] at h1
      obtain ⟨cs, hcs, ht⟩ := h1
      obtain ⟨hb', hlen', hget⟩ := World.cells?_some hcs
      obtain ⟨e, x, hx, hi⟩ := open_ev hlen' ht
      refine ⟨e, fun _ => ⟨x, ⟨?_, ?_, List.not_mem_nil, fun j y he => ?_⟩, hx⟩⟩
      · simp only [Addr.add]; split <;> rfl
      · have h0 := hget 0 (by omega)
        rw [List.getElem?_eq_getElem (by omega)] at h0
        exact cell_block h0
      · obtain ⟨v, e1, e2⟩ := (hi []).2 j y he
        have hj : j < 4 := (List.getElem?_eq_some_iff.1 he).1
        refine ⟨v, ?_, e2⟩
        have h0 := hget j hj
        rw [e1] at h0
        rw [← h0]
        congr 1
        simp only [Addr.add]
        split <;> split <;> simp <;> omega
    · exact ⟨⟨0#8, 0#64, [], []⟩, fun h => absurd h hk⟩
  obtain ⟨g, hg⟩ := Classical.axiomOfChoice each
  refine ⟨some ⟨B, f, none⟩, n0, c0, (List.range n0).map g, rfl, by simp, hl, by (have : c0 ≤ maxLen := hm; unfold maxLen at this; omega), (fun e => by cases e), fun A hA k e he => ?_⟩
  cases hA
  have hk : k < n0 := by have := (List.getElem?_eq_some_iff.1 he).1; simpa using this
  rw [List.getElem?_map, List.getElem?_range hk] at he
  injection he with he
  subst he
  exact hg k hk
end
end Sx
end Go.Proofs.Ytdakmieapdpidaa
end

section
/-
  A named result that becomes data; Row with its result as data; a law over a past and named blocks. No condition.
-/
namespace Go.Proofs.Ytdakmieapdpidaa
set_option linter.unusedVariables false
namespace Sx
open Go.RowKit Go.ChangeShapes Go.WideShapes Sha Vi Ev

end Sx
end Go.Proofs.Ytdakmieapdpidaa
end

section
/-
  Blocks given up at the head of a loop's round: from now on they are data that nobody turns. Over any program. No condition of its own.
-/
namespace Go.Proofs.Ytdakmieapdpidaa
set_option linter.unusedVariables false
namespace Sx
open Go.RowKit
variable {C : Cx}

end Sx
end Go.Proofs.Ytdakmieapdpidaa
end

section
/-
  Events with one put between them: the law BlogErrors' own function. No condition.
-/
namespace Go.Proofs.Ytdakmieapdpidaa
set_option linter.unusedVariables false
namespace Sx
open Go.RowKit Sha Vi Ev

theorem evS_raw (e : Ev) (x : EvC) : ∀ i, ((flat (evS e x)).getD i .any).raw = (flat (evS e x)).getD i .any
  | 0 => rfl
  | 1 => rfl
  | 2 => rfl
  | 3 => rfl
  | _ + 4 => rfl
/-- The cells of events that nobody turns. -/
theorem EvsAt.row {W : World} {ms : List Nat} {A : Addr} {n c : Nat} {es : List Ev} (h : EvsAt W ms (some A) n c es) (hn : 0 < n) : ∃ cs, RowAt W ms cs es ∧ ImAt W ms A cs := by
  have each : ∀ k, ∃ x : EvC, ∀ e, es[k]? = some e → ImAt W ms (A.add (k * 4)) (flat (evS e x)) ∧ EvAt W ms x e := by
    intro k
    by_cases hk : k < es.length
    · obtain ⟨x, h1, h2⟩ := h.elt A rfl k _ (List.getElem?_eq_getElem hk)
      exact ⟨x, fun e he => by rw [List.getElem?_eq_getElem hk] at he; injection he with he; subst he; exact ⟨h1, h2⟩⟩
    · exact ⟨⟨none, 0, 0, none, 0, 0⟩, fun e he => by rw [List.getElem?_eq_none (by omega)] at he; cases he⟩
  obtain ⟨g, hg⟩ := Classical.axiomOfChoice each
  have hlen := h.len
  let F : Nat → SC := fun j => (flat (evS (es.getD (j / 4) ⟨0#8, 0#64, [], []⟩) (g (j / 4)))).getD (j % 4) .any
  have hF : ∀ k e, es[k]? = some e → ∀ i y, (flat (evS e (g k)))[i]? = some y → F (k * 4 + i) = y ∧ i < 4 := by
    intro k e he i y hy
    have hi : i < 4 := (List.getElem?_eq_some_iff.1 hy).1
    refine ⟨?_, hi⟩
    show (flat (evS (es.getD ((k * 4 + i) / 4) _) (g ((k * 4 + i) / 4)))).getD ((k * 4 + i) % 4) .any = y
    rw [show (k * 4 + i) / 4 = k by omega, show (k * 4 + i) % 4 = i by omega, List.getD_eq_getElem?_getD, List.getD_eq_getElem?_getD, he]
    show ((flat (evS e (g k)))[i]?).getD .any = y
    rw [hy]; rfl
  refine ⟨(List.range (es.length * 4)).map F, ⟨by simp, fun x hx => ?_, fun k e he => ⟨g k, fun i y hy => ?_, (hg k e he).2⟩⟩, ?_⟩
  · obtain ⟨j, _, rfl⟩ := List.mem_map.1 hx
    exact evS_raw _ _ _
  · obtain ⟨h1, h2⟩ := hF k e he i y hy
    have hk : k < es.length := (List.getElem?_eq_some_iff.1 he).1
    rw [List.getElem?_map, List.getElem?_range (by omega), Option.map_some, h1]
  · have hz := (hg 0 _ (List.getElem?_eq_getElem (by omega : 0 < es.length))).1
    have hA : A.spot = none := by
      have := hz.1
      obtain ⟨B, f, s⟩ := A
      unfold Addr.add at this
      cases s with
      | none => rfl
      | some s => exact this
    obtain ⟨B, f, s⟩ := A
    simp only at hA
    subst hA
    rw [add_none] at hz
    refine ⟨rfl, hz.2.1, hz.2.2.1, fun j x hx => ?_⟩
    have hj : j < es.length * 4 := by have := (List.getElem?_eq_some_iff.1 hx).1; simpa using this
    rw [List.getElem?_map, List.getElem?_range hj, Option.map_some] at hx
    injection hx with hx
    have hk : j / 4 < es.length := by omega
    have he := List.getElem?_eq_getElem hk
    have hlt : j % 4 < 4 := by omega
    have hy : (flat (evS es[j / 4] (g (j / 4))))[j % 4]? = some ((flat (evS es[j / 4] (g (j / 4))))[j % 4]'(by show j % 4 < 4; exact hlt)) := List.getElem?_eq_getElem _
    obtain ⟨h1, h2⟩ := hF _ _ he _ _ hy
    obtain ⟨h3, _⟩ := hg _ _ he
    rw [add_none] at h3
    obtain ⟨v, e1, e2⟩ := h3.2.2.2 _ _ hy
    refine ⟨v, ?_, ?_⟩
    · rw [← e1]; congr 2; show f + j = f + j / 4 * 4 + j % 4; omega
    · rw [← hx, show j = j / 4 * 4 + j % 4 by omega, h1]; exact e2
theorem RowAt.append {W : World} {ms : List Nat} {cs ds : List SC} {es fs : List Ev} (h : RowAt W ms cs es) (k : RowAt W ms ds fs) : RowAt W ms (cs ++ ds) (es ++ fs) := by
  have hl := h.len
  refine ⟨by rw [List.length_append, hl, k.len, List.length_append]; omega, fun y hy => ?_, fun j e he => ?_⟩
  · rcases List.mem_append.1 hy with hy | hy
    · exact h.raw y hy
    · exact k.raw y hy
  · rcases Nat.lt_or_ge j es.length with hj | hj
    · rw [List.getElem?_append_left hj] at he
      obtain ⟨z, h1, h2⟩ := h.elt j e he
      refine ⟨z, fun i y hy => ?_, h2⟩
      have hi : i < 4 := (List.getElem?_eq_some_iff.1 hy).1
      rw [List.getElem?_append_left (by omega)]
      exact h1 i y hy
    · rw [List.getElem?_append_right hj] at he
      obtain ⟨z, h1, h2⟩ := k.elt _ e he
      refine ⟨z, fun i y hy => ?_, h2⟩
      rw [List.getElem?_append_right (by omega), show j * 4 + i - cs.length = (j - es.length) * 4 + i by omega]
      exact h1 i y hy
theorem RowAt.take {W : World} {ms : List Nat} {cs : List SC} {es : List Ev} (h : RowAt W ms cs es) (k : Nat) (hk : k ≤ es.length) : RowAt W ms (cs.take (k * 4)) (es.take k) := by
  have hl := h.len
  refine ⟨by rw [List.length_take, List.length_take]; omega, fun y hy => h.raw y (List.mem_of_mem_take hy), fun j e he => ?_⟩
  have hj : j < k := by have := (List.getElem?_eq_some_iff.1 he).1; rw [List.length_take] at this; omega
  rw [List.getElem?_take, if_pos hj] at he
  obtain ⟨z, h1, h2⟩ := h.elt j e he
  refine ⟨z, fun i y hy => ?_, h2⟩
  have hi : i < 4 := (List.getElem?_eq_some_iff.1 hy).1
  rw [List.getElem?_take, if_pos (by omega)]
  exact h1 i y hy
theorem RowAt.drop {W : World} {ms : List Nat} {cs : List SC} {es : List Ev} (h : RowAt W ms cs es) (k : Nat) (hk : k ≤ es.length) : RowAt W ms (cs.drop (k * 4)) (es.drop k) := by
  have hl := h.len
  refine ⟨by rw [List.length_drop, List.length_drop]; omega, fun y hy => h.raw y (List.mem_of_mem_drop hy), fun j e he => ?_⟩
  rw [List.getElem?_drop] at he
  obtain ⟨z, h1, h2⟩ := h.elt _ e he
  refine ⟨z, fun i y hy => ?_, h2⟩
  rw [List.getElem?_drop, show k * 4 + (j * 4 + i) = (k + j) * 4 + i by omega]
  exact h1 i y hy
end Sx
end Go.Proofs.Ytdakmieapdpidaa
end

section
/-
  Events with one put between them: binnaclelaw25.BlogErrors$1. No condition.
-/
namespace Go.Proofs.Ytdakmieapdpidaa
set_option linter.unusedVariables false
namespace Sx
open Go.RowKit Sha Vi Ev

end Sx
end Go.Proofs.Ytdakmieapdpidaa
end

section
/-
  Events with one put between them, of none: binnaclelaw25.BlogErrors$1. No condition.
-/
namespace Go.Proofs.Ytdakmieapdpidaa
set_option linter.unusedVariables false
namespace Sx
open Go.RowKit Sha Vi Ev

end Sx
end Go.Proofs.Ytdakmieapdpidaa
end

section
/-
  Events that can't stand in a log, or not there: plain. No condition.
-/
namespace Go.Proofs.Ytdakmieapdpidaa
set_option linter.unusedVariables false
namespace Ev
open Vi Sha

/-- The time of the last one. -/
def lastT : BitVec 64 → List Ev → BitVec 64
  | last, [] => last
  | _, e :: r => lastT e.t r
theorem GoodL.take : ∀ {es : List Ev} {last : BitVec 64} (k : Nat), GoodL last es → GoodL last (es.take k)
  | [], _, k, _ => by rw [List.take_nil]; trivial
  | _ :: _, _, 0, _ => trivial
  | _ :: _, _, k + 1, ⟨h1, h2, h3⟩ => ⟨h1, fun h => by rw [h2 h]; exact List.take_nil, GoodL.take k h3⟩
theorem GoodL.hi : ∀ {es : List Ev} {last : BitVec 64} {k : Nat} {z : Ev}, GoodL last es → es[k]? = some z → z.t.toNat ≤ 1125899906842624
  | [], _, k, _, _, h => by simp at h
  | e :: r, _, 0, z, ⟨h1, _, _⟩, h => by simp at h; subst h; exact h1.hi
  | e :: r, _, k + 1, z, ⟨_, _, h3⟩, h => GoodL.hi h3 (by simpa using h)
theorem lastT_eq : ∀ {es : List Ev} {last : BitVec 64} {k : Nat} {z : Ev}, es[k]? = some z → lastT last (es.take (k + 1)) = z.t
  | [], _, k, _, h => by simp at h
  | e :: r, _, 0, z, h => by simp at h; subst h; rfl
  | e :: r, last, k + 1, z, h => by
    rw [List.take_succ_cons]
    exact lastT_eq (last := e.t) (k := k) (by simpa using h)
end Ev
end Go.Proofs.Ytdakmieapdpidaa
end

section
/-
  Events with one put between them: any. No condition.
-/
namespace Go.Proofs.Ytdakmieapdpidaa
set_option linter.unusedVariables false
namespace Sx
open Go.RowKit Sha Vi Ev

end Sx
end Go.Proofs.Ytdakmieapdpidaa
end

section
/-
  A log of events: New, Full, Len, nil ones. No condition.
-/
namespace Go.Proofs.Ytdakmieapdpidaa
set_option linter.unusedVariables false
namespace Ev
/-- What blog.Add does. -/
def addM (lim : Int) (m : List Ev) (cut : Bool) (dr : Nat) (e : Ev) : List Ev × Bool × Nat × Int :=
  if checkM e ≠ 0 then (m, cut, dr, checkM e) else if cut = true then (m, cut, dr + 1, 11) else if e.t < lastT 0#64 m then (m, cut, dr, 21) else if e.k = 19#8 then (m, cut, dr, 5)
  else if lim ≤ (m.length : Int) + 1 then (m ++ [⟨19#8, e.t, [], []⟩], true, dr + 1, 11) else (m ++ [e], cut, dr, 0)
end Ev
namespace Sx
open Go.RowKit Sha Vi Ev

abbrev logC (lim : Int) (s : SC) (cut : Bool) (dr : Int) : List Seg := [.one (.int .i64 lim), .one s, .one (.bool cut), .one (.int .i64 dr)]
set_option maxRecDepth 20000 in
theorem fn_lnew (most : Int) : FnR Try.prog tds 16 0 [] [.c (.int .i64 most)] (fun _ => True)
    (fun y hs => y = .a (.c (.p 0 0 0)) ∧ hs = [logC (min (max most 1) 2048) (.slc none 0 0) false 0]) := by
  refine fn_of_body tds_ok follows_ Try.func16 rfl (t := .a (.c (.int .i64 most)) :: anys (Try.f16.ntmps - 1)) rfl (fun w r0 hr _ => ?_)
  obtain rfl : r0 = [] := List.length_eq_zero_iff.1 hr
  (repeat first | (refine And.intro ?_ ?_; first | exact rfl | ((exact fun h => absurd h (by first | decide)); intro yy; clear yy) | (rotate_left; (exact fun h => absurd h (by first | decide)); intro yy; clear yy) | decide | omega) | (with_reducible refine frc_bytesL (by first | omega | decide) ?_) | (with_reducible refine frc_bytesM (by first | omega | decide) ?_))
  refine ⟨.a (.c (.p 0 0 0)), _, ⟨[0], ⟨rfl, rfl, rfl⟩, ?_⟩, rfl, rfl⟩
  (repeat first | exact trivial | refine ent1 ?_)
set_option maxRecDepth 20000 in
theorem fn_lfull {W : World} {ms : List Nat} (lim : Int) (cut : Bool) (dr : Int) : FnR Try.prog tds 19 2 [[.past W ms], logC lim .any cut dr] [.c (.p 1 0 0)] (fun _ => True)
    (fun y hs => y = .tup [.c (.bool cut), .c (.int .i64 dr)] ∧ hs.drop 2 = []) := by
  refine fn_of_body tds_ok follows_ Try.func19 rfl (t := .a (.c (.p 1 0 0)) :: anys (Try.f19.ntmps - 1)) rfl (fun w r0 hr _ => ?_)
  obtain ⟨x0, x1, rfl⟩ := len2' hr
  (repeat first | (refine And.intro ?_ ?_; first | exact rfl | ((exact fun h => absurd h (by first | decide)); intro yy; clear yy) | (rotate_left; (exact fun h => absurd h (by first | decide)); intro yy; clear yy) | decide | omega) | (with_reducible refine frc_bytesL (by first | omega | decide) ?_) | (with_reducible refine frc_bytesM (by first | omega | decide) ?_))
  refine ⟨none, [], [(0, true), (1, true), (2, true), (3, true), (4, true), (5, true), (6, true), (7, true), (8, true), (9, true)], [], by kernel_rfl, ?_⟩
  refine ⟨.tup [.c (.bool cut), .c (.int .i64 dr)], [[.past W ms], logC lim .any cut dr], ⟨[0, 1], ⟨rfl, rfl, rfl⟩, ?_⟩, rfl, rfl⟩
  (repeat first | exact trivial | refine ent1 ?_)
  done
set_option maxRecDepth 20000 in
theorem fn_lfullN {W : World} {ms : List Nat} : FnR Try.prog tds 19 1 [[.past W ms]] [.c (.ptr none)] (fun _ => True)
    (fun y hs => y = .tup [.c (.bool false), .c (.int .i64 0)] ∧ hs.drop 1 = []) := by
  refine fn_of_body tds_ok follows_ Try.func19 rfl (t := .a (.c (.ptr none)) :: anys (Try.f19.ntmps - 1)) rfl (fun w r0 hr _ => ?_)
  obtain ⟨x0, rfl⟩ := List.length_eq_one_iff.1 hr
  (repeat first | (refine And.intro ?_ ?_; first | exact rfl | ((exact fun h => absurd h (by first | decide)); intro yy; clear yy) | (rotate_left; (exact fun h => absurd h (by first | decide)); intro yy; clear yy) | decide | omega) | (with_reducible refine frc_bytesL (by first | omega | decide) ?_) | (with_reducible refine frc_bytesM (by first | omega | decide) ?_))
  refine ⟨.tup [.c (.bool false), .c (.int .i64 0)], [[.past W ms]], ⟨[0], ⟨rfl, rfl, rfl⟩, ?_⟩, rfl, rfl⟩
  (repeat first | exact trivial | refine ent1 ?_)
set_option maxRecDepth 20000 in
theorem fn_llenN {W : World} {ms : List Nat} : FnR Try.prog tds 21 1 [[.past W ms]] [.c (.ptr none)] (fun _ => True)
    (fun y hs => y = .a (.c (.int .i64 0)) ∧ hs.drop 1 = []) := by
  refine fn_of_body tds_ok follows_ Try.func21 rfl (t := .a (.c (.ptr none)) :: anys (Try.f21.ntmps - 1)) rfl (fun w r0 hr _ => ?_)
  obtain ⟨x0, rfl⟩ := List.length_eq_one_iff.1 hr
  (repeat first | (refine And.intro ?_ ?_; first | exact rfl | ((exact fun h => absurd h (by first | decide)); intro yy; clear yy) | (rotate_left; (exact fun h => absurd h (by first | decide)); intro yy; clear yy) | decide | omega) | (with_reducible refine frc_bytesL (by first | omega | decide) ?_) | (with_reducible refine frc_bytesM (by first | omega | decide) ?_))
  refine ⟨.a (.c (.int .i64 0)), [[.past W ms]], ⟨[0], ⟨rfl, rfl, rfl⟩, ?_⟩, rfl, rfl⟩
  (repeat first | exact trivial | refine ent1 ?_)
set_option maxRecDepth 20000 in
theorem fn_lsinceN {W : World} {ms : List Nat} (k : Int) : FnR Try.prog tds 22 1 [[.past W ms]] [.c (.ptr none), .c (.int .i64 k)] (fun _ => True)
    (fun y hs => y = .a (.c (.slc none 0 0)) ∧ hs = [[.past W ms]]) := by
  refine fn_of_body tds_ok follows_ Try.func22 rfl (t := .a (.c (.ptr none)) :: .a (.c (.int .i64 k)) :: anys (Try.f22.ntmps - 2)) rfl (fun w r0 hr _ => ?_)
  obtain ⟨x0, rfl⟩ := List.length_eq_one_iff.1 hr
  (repeat first | (refine And.intro ?_ ?_; first | exact rfl | ((exact fun h => absurd h (by first | decide)); intro yy; clear yy) | (rotate_left; (exact fun h => absurd h (by first | decide)); intro yy; clear yy) | decide | omega) | (with_reducible refine frc_bytesL (by first | omega | decide) ?_) | (with_reducible refine frc_bytesM (by first | omega | decide) ?_))
  refine ⟨.a (.c (.slc none 0 0)), [[.past W ms]], ⟨[0], ⟨rfl, rfl, rfl⟩, ?_⟩, rfl, rfl⟩
  (repeat first | exact trivial | refine ent1 ?_)
set_option maxRecDepth 20000 in
theorem fn_llistN {W : World} {ms : List Nat} : FnR Try.prog tds 20 1 [[.past W ms]] [.c (.ptr none)] (fun _ => True)
    (fun y hs => y = .a (.c (.slc none 0 0)) ∧ hs.drop 1 = []) := by
  refine fn_of_body tds_ok follows_ Try.func20 rfl (t := .a (.c (.ptr none)) :: anys (Try.f20.ntmps - 1)) rfl (fun w r0 hr _ => ?_)
  obtain ⟨x0, rfl⟩ := List.length_eq_one_iff.1 hr
  (repeat first | (refine And.intro ?_ ?_; first | exact rfl | ((exact fun h => absurd h (by first | decide)); intro yy; clear yy) | (rotate_left; (exact fun h => absurd h (by first | decide)); intro yy; clear yy) | decide | omega) | (with_reducible refine frc_bytesL (by first | omega | decide) ?_) | (with_reducible refine frc_bytesM (by first | omega | decide) ?_))
  refine call_same (fn_lsinceN (W := W) (ms := ms) 0) [0] rfl (by (repeat first | exact trivial | refine ent1 ?_)) (by (repeat first | exact trivial | refine ent1 ?_)) (fun _ _ => trivial) ?_
  rintro y hs' ⟨rfl, rfl⟩
  (repeat first | (refine And.intro ?_ ?_; first | exact rfl | ((exact fun h => absurd h (by first | decide)); intro yy; clear yy) | (rotate_left; (exact fun h => absurd h (by first | decide)); intro yy; clear yy) | decide | omega) | (with_reducible refine frc_bytesL (by first | omega | decide) ?_) | (with_reducible refine frc_bytesM (by first | omega | decide) ?_))
  refine ⟨.a (.c (.slc none 0 0)), [[.past W ms]], ⟨[0], ⟨rfl, rfl, rfl⟩, ?_⟩, rfl, rfl⟩
  (repeat first | exact trivial | refine ent1 ?_)
set_option maxRecDepth 20000 in
theorem fn_llen0 {W : World} {ms : List Nat} (lim : Int) (cut : Bool) (dr : Int) : FnR Try.prog tds 21 2 [[.past W ms], logC lim (.slc none 0 0) cut dr] [.c (.p 1 0 0)] (fun _ => True)
    (fun y hs => y = .a (.c (.int .i64 0)) ∧ hs.drop 2 = []) := by
  refine fn_of_body tds_ok follows_ Try.func21 rfl (t := .a (.c (.p 1 0 0)) :: anys (Try.f21.ntmps - 1)) rfl (fun w r0 hr _ => ?_)
  obtain ⟨x0, x1, rfl⟩ := len2' hr
  (repeat first | (refine And.intro ?_ ?_; first | exact rfl | ((exact fun h => absurd h (by first | decide)); intro yy; clear yy) | (rotate_left; (exact fun h => absurd h (by first | decide)); intro yy; clear yy) | decide | omega) | (with_reducible refine frc_bytesL (by first | omega | decide) ?_) | (with_reducible refine frc_bytesM (by first | omega | decide) ?_))
  refine ⟨.a (.c (.int .i64 0)), [[.past W ms], logC lim (.slc none 0 0) cut dr], ⟨[0, 1], ⟨rfl, rfl, rfl⟩, ?_⟩, rfl, rfl⟩
  (repeat first | exact trivial | refine ent1 ?_)
set_option maxRecDepth 20000 in
theorem fn_llen1 {W : World} {ms : List Nat} (lim : Int) (cut : Bool) (dr : Int) (n c : Nat) (l : List Seg) : FnR Try.prog tds 21 3 [[.past W ms], logC lim (.sl 2 0 0 n c) cut dr, []] [.c (.p 1 0 0)] (fun _ => True)
    (fun y hs => y = .a (.c (.int .i64 (n : Int))) ∧ hs.drop 3 = []) := by
  refine fn_of_body tds_ok follows_ Try.func21 rfl (t := .a (.c (.p 1 0 0)) :: anys (Try.f21.ntmps - 1)) rfl (fun w r0 hr _ => ?_)
  obtain ⟨x0, x1, x2, rfl⟩ := len3' hr
  (repeat first | (refine And.intro ?_ ?_; first | exact rfl | ((exact fun h => absurd h (by first | decide)); intro yy; clear yy) | (rotate_left; (exact fun h => absurd h (by first | decide)); intro yy; clear yy) | decide | omega) | (with_reducible refine frc_bytesL (by first | omega | decide) ?_) | (with_reducible refine frc_bytesM (by first | omega | decide) ?_))
  refine ⟨.a (.c (.int .i64 (n : Int))), [[.past W ms], logC lim (.sl 2 0 0 n c) cut dr, []], ⟨[0, 1, 2], ⟨rfl, rfl, rfl⟩, ?_⟩, rfl, rfl⟩
  (repeat first | exact trivial | refine ent1 ?_)
set_option maxRecDepth 20000 in
theorem fn_laddN {W : World} {ms : List Nat} (e : Ev) (x : EvC) : FnR Try.prog tds 18 1 [[.past W ms]] [.c (.ptr none), .agg (evS e x)] (fun _ => True)
    (fun y hs => y = .a (.c (.int .i64 1)) ∧ hs.drop 1 = []) := by
  refine fn_of_body tds_ok follows_ Try.func18 rfl (t := .a (.c (.ptr none)) :: .a (.agg (evS e x)) :: anys (Try.f18.ntmps - 2)) rfl (fun w r0 hr _ => ?_)
  obtain ⟨x0, rfl⟩ := List.length_eq_one_iff.1 hr
  (repeat first | (refine And.intro ?_ ?_; first | exact rfl | ((exact fun h => absurd h (by first | decide)); intro yy; clear yy) | (rotate_left; (exact fun h => absurd h (by first | decide)); intro yy; clear yy) | decide | omega) | (with_reducible refine frc_bytesL (by first | omega | decide) ?_) | (with_reducible refine frc_bytesM (by first | omega | decide) ?_))
  refine ⟨.a (.c (.int .i64 1)), [[.past W ms]], ⟨[0], ⟨rfl, rfl, rfl⟩, ?_⟩, rfl, rfl⟩
  (repeat first | exact trivial | refine ent1 ?_)
end Sx
end Go.Proofs.Ytdakmieapdpidaa
end

section
/-
  blog.Log.Add: one more, of some. No condition.
-/
namespace Go.Proofs.Ytdakmieapdpidaa
set_option linter.unusedVariables false
namespace Sx
open Go.RowKit Sha Vi Ev

set_option maxRecDepth 20000 in
set_option maxHeartbeats 16000000 in
theorem fn_ladd1 {W : World} {ms : List Nat} {x : EvC} {e : Ev} (hx : EvAt W ms x e) {cs : List SC} {m : List Ev} {n c : Nat} (hr : RowAt W ms cs m) (hn : m.length = n) (hn0 : 0 < n) (hn2 : n ≤ 100) (hc : n ≤ c) (lim : Int) (cut : Bool) (dr : Nat) (hdr : dr ≤ 1000) {m' : List Ev} {cut' : Bool} {dr' : Nat} {err : Int}
    (hadd : addM lim m cut dr e = (m', cut', dr', err)) (hD : e.D.length ≤ 1000) (hN : e.N.length ≤ 1000) :
    FnR Try.prog tds 18 1 [[.past W ms], logC lim (.sl 2 0 0 n c) cut (dr : Int), [.row (scale c (3 + 1)) (nthC cs)]] [.c (.p 1 0 0), .agg (evS e x)] (fun _ => True)
    (fun y hs => ∃ W' ms', Later W ms W' ms' ∧ y = .a (.c (.int .i64 err)) ∧ ((m' = m ∧ hs = [[.past W' ms'], logC lim (.sl 2 0 0 n c) cut' (dr' : Int), [.row (scale c (3 + 1)) (nthC cs)]]) ∨
      ∃ cs' c', RowAt W' ms' cs' m' ∧ m'.length = n + 1 ∧ n + 1 ≤ c' ∧ hs = [[.past W' ms'], logC lim (.sl 3 0 0 (n + 1) c') cut' (dr' : Int), [], [.row (scale c' (3 + 1)) (nthC cs')]])) := by
  unfold addM at hadd
  refine fn_of_body tds_ok follows_ Try.func18 rfl (t := .a (.c (.p 1 0 0)) :: .a (.agg (evS e x)) :: anys (Try.f18.ntmps - 2)) rfl (fun w r0 hr0 _ => ?_)
  obtain ⟨x0, x1, x2, rfl⟩ := len3' hr0
  (repeat first | (refine And.intro ?_ ?_; first | exact rfl | ((exact fun h => absurd h (by first | decide)); intro yy; clear yy) | (rotate_left; (exact fun h => absurd h (by first | decide)); intro yy; clear yy) | decide | omega) | (with_reducible refine frc_bytesL (by first | omega | decide) ?_) | (with_reducible refine frc_bytesM (by first | omega | decide) ?_))
  refine call_same (fn_echeck hx) [0] rfl (by (repeat first | exact trivial | refine ent1 ?_)) (by (repeat first | exact trivial | refine ent1 ?_)) (fun _ _ => trivial) ?_
  rintro y hs' ⟨rfl, rfl⟩
  by_cases hce : checkM e = 0
  rotate_left
  · have k1 : decide (checkM e ≠ 0) = true := decide_eq_true hce
    rw [if_pos hce] at hadd
    simp only [Prod.mk.injEq] at hadd
    obtain ⟨rfl, rfl, h3, rfl⟩ := hadd
    (repeat first | (refine And.intro ?_ ?_; first | exact rfl | ((exact fun h => absurd h (by first | decide | (rw [k1]; decide))); intro yy; clear yy) | (rotate_left; (exact fun h => absurd h (by first | decide | (rw [k1]; decide))); intro yy; clear yy) | decide | omega) | (with_reducible refine frc_bytesL (by first | omega | decide) ?_) | (with_reducible refine frc_bytesM (by first | omega | decide) ?_))
    refine ⟨.a (.c (.int .i64 (checkM e))), _, ⟨[0, 1, 2], ⟨rfl, rfl, rfl⟩, ?_⟩, W, ms, Later.refl _ _, rfl, .inl ⟨rfl, rfl⟩⟩
    (repeat first | exact trivial | refine ent1 ?_)
    refine ⟨fun j _ => eqC_cs hr.raw (fun _ _ => rfl) j, ?_⟩
    (repeat first | exact trivial | refine ent1 ?_)
  rw [if_neg (by omega)] at hadd
  rw [hce]
  have e9 : decide ((0 : Int) ≠ 0) = false := by decide
  cases cut with
  | true =>
    rw [if_pos rfl] at hadd
    simp only [Prod.mk.injEq] at hadd
    obtain ⟨rfl, rfl, h3, rfl⟩ := hadd
    subst h3
    (repeat first | (refine And.intro ?_ ?_; first | exact rfl | ((exact fun h => absurd h (by first | decide | (rw [e9]; decide))); intro yy; clear yy) | (rotate_left; (exact fun h => absurd h (by first | decide | (rw [e9]; decide))); intro yy; clear yy) | decide | omega) | (with_reducible refine frc_bytesL (by first | omega | decide) ?_) | (with_reducible refine frc_bytesM (by first | omega | decide) ?_))
    refine ⟨.a (.c (.int .i64 11)), _, ⟨[0, 1, 2], ⟨rfl, rfl, rfl⟩, ?_⟩, W, ms, Later.refl _ _, rfl, .inl ⟨rfl, rfl⟩⟩
    (repeat first | exact trivial | refine ent1 ?_)
    refine ⟨fun j _ => eqC_cs hr.raw (fun _ _ => rfl) j, ?_⟩
    (repeat first | exact trivial | refine ent1 ?_)
  | false =>
  rw [if_neg (by decide)] at hadd
  obtain ⟨z, hz⟩ : ∃ z, m[n - 1]? = some z := ⟨_, List.getElem?_eq_getElem (by omega)⟩
  obtain ⟨zx, hzc, _⟩ := hr.elt (n - 1) z hz
  have hzt : cs[(n - 1) * 4 + 1]? = some (.w64 z.t) := hzc 1 _ rfl
  have hlast : lastT 0#64 m = z.t := by
    have := lastT_eq (last := 0#64) hz
    rwa [show n - 1 + 1 = m.length by omega, List.take_length] at this
  rw [hlast] at hadd
  have kn : decide ((0 : Int) < (n : Int)) = true := decide_eq_true (by omega)
  (repeat first | (refine And.intro ?_ ?_; first | exact rfl | ((exact fun h => absurd h (by first | decide | (rw [e9]; decide))); intro yy; clear yy) | (rotate_left; (exact fun h => absurd h (by first | decide | (rw [e9]; decide))); intro yy; clear yy) | decide | omega) | (with_reducible refine frc_bytesL (by first | omega | decide) ?_) | (with_reducible refine frc_bytesM (by first | omega | decide) ?_))
  refine ⟨none, [], [(0, true), (1, true), (2, true), (3, true), (4, true), (5, true), (6, true), (7, true), (8, true), (9, true), (10, true), (11, true), (12, true), (13, true), (14, true), (15, true)], [], by kernel_rfl, ?_⟩
  (repeat first | (refine And.intro ?_ ?_; first | exact rfl | ((exact fun h => absurd h (by first | decide | (rw [kn]; decide))); intro yy; clear yy) | (rotate_left; (exact fun h => absurd h (by first | decide | (rw [kn]; decide))); intro yy; clear yy) | decide | omega) | (with_reducible refine frc_bytesL (by first | omega | decide) ?_) | (with_reducible refine frc_bytesM (by first | omega | decide) ?_))
  refine And.intro (show ((n : Int) - 1).toNat * 4 + 1 < scale c (3 + 1) by rw [sc4]; omega) ?_
  refine frc_eq (y := .w64 z.t) (by rw [show ((n : Int) - 1).toNat * 4 + 1 = (n - 1) * 4 + 1 by omega]; exact nthC_get? hzt) ?_
  by_cases ht : e.t < z.t
  · have kt : decide (e.t < z.t) = true := decide_eq_true ht
    rw [if_pos ht] at hadd
    simp only [Prod.mk.injEq] at hadd
    obtain ⟨rfl, rfl, rfl, rfl⟩ := hadd
    (repeat first | (refine And.intro ?_ ?_; first | exact rfl | ((exact fun h => absurd h (by first | decide | (rw [kn]; decide) | (rw [kt]; decide))); intro yy; clear yy) | (rotate_left; (exact fun h => absurd h (by first | decide | (rw [kn]; decide) | (rw [kt]; decide))); intro yy; clear yy) | decide | omega) | (with_reducible refine frc_bytesL (by first | omega | decide) ?_) | (with_reducible refine frc_bytesM (by first | omega | decide) ?_))
    refine ⟨.a (.c (.int .i64 21)), _, ⟨[0, 1, 2], ⟨rfl, rfl, rfl⟩, ?_⟩, W, ms, Later.refl _ _, rfl, .inl ⟨rfl, rfl⟩⟩
    (repeat first | exact trivial | refine ent1 ?_)
    refine ⟨fun j _ => eqC_cs hr.raw (fun _ _ => rfl) j, ?_⟩
    (repeat first | exact trivial | refine ent1 ?_)
  have kt : decide (e.t < z.t) = false := decide_eq_false ht
  rw [if_neg ht] at hadd
  by_cases hk : e.k = 19#8
  · have kk : decide (e.k = 19#8) = true := decide_eq_true hk
    rw [if_pos hk] at hadd
    simp only [Prod.mk.injEq] at hadd
    obtain ⟨rfl, rfl, rfl, rfl⟩ := hadd
    (repeat first | (refine And.intro ?_ ?_; first | exact rfl | ((exact fun h => absurd h (by first | decide | (rw [kn]; decide) | (rw [kt]; decide) | (rw [kk]; decide))); intro yy; clear yy) | (rotate_left; (exact fun h => absurd h (by first | decide | (rw [kn]; decide) | (rw [kt]; decide) | (rw [kk]; decide))); intro yy; clear yy) | decide | omega) | (with_reducible refine frc_bytesL (by first | omega | decide) ?_) | (with_reducible refine frc_bytesM (by first | omega | decide) ?_))
    refine ⟨.a (.c (.int .i64 5)), _, ⟨[0, 1, 2], ⟨rfl, rfl, rfl⟩, ?_⟩, W, ms, Later.refl _ _, rfl, .inl ⟨rfl, rfl⟩⟩
    (repeat first | exact trivial | refine ent1 ?_)
    refine ⟨fun j _ => eqC_cs hr.raw (fun _ _ => rfl) j, ?_⟩
    (repeat first | exact trivial | refine ent1 ?_)
  have kk : decide (e.k = 19#8) = false := decide_eq_false hk
  rw [if_neg hk] at hadd
  (repeat first | (refine And.intro ?_ ?_; first | exact rfl | ((exact fun h => absurd h (by first | decide | (rw [kn]; decide) | (rw [kt]; decide) | (rw [kk]; decide))); intro yy; clear yy) | (rotate_left; (exact fun h => absurd h (by first | decide | (rw [kn]; decide) | (rw [kt]; decide) | (rw [kk]; decide))); intro yy; clear yy) | decide | omega) | (with_reducible refine frc_bytesL (by first | omega | decide) ?_) | (with_reducible refine frc_bytesM (by first | omega | decide) ?_))
  refine ⟨none, [], [(0, true), (1, true), (2, true), (3, true), (4, true), (5, true), (6, true), (7, true), (8, true), (9, true), (10, true)], [], by kernel_rfl, ?_⟩
  by_cases hl : lim ≤ (m.length : Int) + 1
  · have kl : decide (lim ≤ (n : Int) + 1) = true := decide_eq_true (by rw [← hn]; exact hl)
    rw [if_pos hl] at hadd
    simp only [Prod.mk.injEq] at hadd
    obtain ⟨rfl, rfl, rfl, rfl⟩ := hadd
    (repeat first | (refine And.intro ?_ ?_; first | exact rfl | ((exact fun h => absurd h (by first | decide | (rw [kl]; decide))); intro yy; clear yy) | (rotate_left; (exact fun h => absurd h (by first | decide | (rw [kl]; decide))); intro yy; clear yy) | decide | omega) | (with_reducible refine frc_bytesL (by first | omega | decide) ?_) | (with_reducible refine frc_bytesM (by first | omega | decide) ?_))
    refine ⟨none, [], [(0, true), (1, true), (2, true), (3, true), (4, true), (5, true), (6, true), (7, true), (8, false)], [9, 10, 11, 12], by kernel_rfl, ?_⟩
    (repeat first | (refine And.intro ?_ ?_; first | exact rfl | ((exact fun h => absurd h (by first | decide | (rw [kl]; decide))); intro yy; clear yy) | (rotate_left; (exact fun h => absurd h (by first | decide | (rw [kl]; decide))); intro yy; clear yy) | decide | omega) | (with_reducible refine frc_bytesL (by first | omega | decide) ?_) | (with_reducible refine frc_bytesM (by first | omega | decide) ?_))
    refine And.intro (show 0 + 4 ≤ 4 by decide) ?_
    (repeat first | (refine And.intro ?_ ?_; first | exact rfl | ((exact fun h => absurd h (by first | decide | (rw [kl]; decide))); intro yy; clear yy) | (rotate_left; (exact fun h => absurd h (by first | decide | (rw [kl]; decide))); intro yy; clear yy) | decide | omega) | (with_reducible refine frc_bytesL (by first | omega | decide) ?_) | (with_reducible refine frc_bytesM (by first | omega | decide) ?_))
    refine And.intro ⟨hc, Nat.le_of_eq (Nat.zero_add _), (show (n + 1) * 64 ≤ 140737488355328 by omega)⟩ ?_
    intro cA hcA
    (repeat first | (refine And.intro ?_ ?_; first | exact rfl | ((exact fun h => absurd h (by first | decide | (rw [kl]; decide))); intro yy; clear yy) | (rotate_left; (exact fun h => absurd h (by first | decide | (rw [kl]; decide))); intro yy; clear yy) | decide | omega) | (with_reducible refine frc_bytesL (by first | omega | decide) ?_) | (with_reducible refine frc_bytesM (by first | omega | decide) ?_))
    have hR : RowAt W ms (cs ++ flat (evS ⟨19#8, e.t, [], []⟩ ⟨none, 0, 0, none, 0, 0⟩)) (m ++ [⟨19#8, e.t, [], []⟩]) := hr.snoc ⟨SlAt.nul, SlAt.nul⟩
    refine ⟨.a (.c (.int .i64 11)), _, ⟨[0, 1, 2, 5], ⟨rfl, rfl, rfl⟩, ?_⟩, W, ms, Later.refl _ _, rfl, .inr ⟨_, cA, hR, by rw [List.length_append, hn]; rfl, hcA, rfl⟩⟩
    (repeat first | exact trivial | refine ent1 ?_)
    refine ⟨fun j _ => eqC_cs hR.raw ?_ j, ?_⟩
    · exact fun j hj => app_cs (by rw [hr.len, hn]) (fun _ _ => rfl) rfl (fun j hj => updN_new hj) j hj
    (repeat first | exact trivial | refine ent1 ?_)
  · have kl : decide (lim ≤ (n : Int) + 1) = false := decide_eq_false (by rw [← hn]; exact hl)
    rw [if_neg hl] at hadd
    simp only [Prod.mk.injEq] at hadd
    obtain ⟨rfl, rfl, rfl, rfl⟩ := hadd
    (repeat first | (refine And.intro ?_ ?_; first | exact rfl | ((exact fun h => absurd h (by first | decide | (rw [kl]; decide))); intro yy; clear yy) | (rotate_left; (exact fun h => absurd h (by first | decide | (rw [kl]; decide))); intro yy; clear yy) | decide | omega) | (with_reducible refine frc_bytesL (by first | omega | decide) ?_) | (with_reducible refine frc_bytesM (by first | omega | decide) ?_))
    refine ⟨none, [], [(0, true), (1, true), (2, true), (3, true), (4, true), (5, true), (6, false), (7, false)], [8, 9, 10, 11], by kernel_rfl, ?_⟩
    (repeat first | (refine And.intro ?_ ?_; first | exact rfl | ((exact fun h => absurd h (by first | decide | (rw [kl]; decide))); intro yy; clear yy) | (rotate_left; (exact fun h => absurd h (by first | decide | (rw [kl]; decide))); intro yy; clear yy) | decide | omega) | (with_reducible refine frc_bytesL (by first | omega | decide) ?_) | (with_reducible refine frc_bytesM (by first | omega | decide) ?_))
    refine call_past (fn_eclone hx (by omega) (by omega)) 0 [] rfl rfl (by (repeat first | exact trivial | refine ent1 ?_)) (by (repeat first | exact trivial | refine ent1 ?_)) (fun _ _ => trivial) (fun x hs hr => ?_) ?_
    · obtain ⟨W', ms', x', h1, _, _, rfl⟩ := hr
      exact ⟨W', ms', rfl, h1⟩
    rintro y hs' ⟨W1, ms1, x1, hL1, hx1, rfl, rfl⟩
    (repeat first | (refine And.intro ?_ ?_; first | exact rfl | ((exact fun h => absurd h (by first | decide | (rw [kl]; decide))); intro yy; clear yy) | (rotate_left; (exact fun h => absurd h (by first | decide | (rw [kl]; decide))); intro yy; clear yy) | decide | omega) | (with_reducible refine frc_bytesL (by first | omega | decide) ?_) | (with_reducible refine frc_bytesM (by first | omega | decide) ?_))
    refine And.intro (show 0 + 4 ≤ 4 by decide) ?_
    (repeat first | (refine And.intro ?_ ?_; first | exact rfl | ((exact fun h => absurd h (by first | decide | (rw [kl]; decide))); intro yy; clear yy) | (rotate_left; (exact fun h => absurd h (by first | decide | (rw [kl]; decide))); intro yy; clear yy) | decide | omega) | (with_reducible refine frc_bytesL (by first | omega | decide) ?_) | (with_reducible refine frc_bytesM (by first | omega | decide) ?_))
    refine And.intro ⟨hc, Nat.le_of_eq (Nat.zero_add _), (show (n + 1) * 64 ≤ 140737488355328 by omega)⟩ ?_
    intro cA hcA
    (repeat first | (refine And.intro ?_ ?_; first | exact rfl | ((exact fun h => absurd h (by first | decide | (rw [kl]; decide))); intro yy; clear yy) | (rotate_left; (exact fun h => absurd h (by first | decide | (rw [kl]; decide))); intro yy; clear yy) | decide | omega) | (with_reducible refine frc_bytesL (by first | omega | decide) ?_) | (with_reducible refine frc_bytesM (by first | omega | decide) ?_))
    have hR : RowAt W1 ms1 (cs ++ flat (evS e x1)) (m ++ [e]) := (hr.later hL1).snoc hx1
    refine ⟨.a (.c (.int .i64 0)), _, ⟨[0, 1, 2, 5], ⟨rfl, rfl, rfl⟩, ?_⟩, W1, ms1, hL1, rfl, .inr ⟨_, cA, hR, by rw [List.length_append, hn]; rfl, hcA, rfl⟩⟩
    (repeat first | exact trivial | refine ent1 ?_)
    refine ⟨fun j _ => eqC_cs hR.raw ?_ j, ?_⟩
    · exact fun j hj => app_cs (by rw [hr.len, hn]) (fun _ _ => rfl) rfl (fun j hj => updN_new hj) j hj
    (repeat first | exact trivial | refine ent1 ?_)
end Sx
end Go.Proofs.Ytdakmieapdpidaa
end

section
/-
  blog.Log.Add: the first one. No condition.
-/
namespace Go.Proofs.Ytdakmieapdpidaa
set_option linter.unusedVariables false
namespace Sx
open Go.RowKit Sha Vi Ev

set_option maxRecDepth 20000 in
set_option maxHeartbeats 16000000 in
theorem fn_ladd0 {W : World} {ms : List Nat} {x : EvC} {e : Ev} (hx : EvAt W ms x e) (lim : Int) (dr : Nat) {m' : List Ev} {cut' : Bool} {dr' : Nat} {err : Int}
    (hadd : addM lim [] false dr e = (m', cut', dr', err)) (hdr : dr ≤ 1000) (hD : e.D.length ≤ 1000) (hN : e.N.length ≤ 1000) :
    FnR Try.prog tds 18 1 [[.past W ms], logC lim (.slc none 0 0) false (dr : Int)] [.c (.p 1 0 0), .agg (evS e x)] (fun _ => True)
    (fun y hs => ∃ W' ms', Later W ms W' ms' ∧ y = .a (.c (.int .i64 err)) ∧ ((m' = [] ∧ cut' = false ∧ hs = [[.past W' ms'], logC lim (.slc none 0 0) false (dr' : Int)]) ∨
      ∃ cs' c', RowAt W' ms' cs' m' ∧ m'.length = 1 ∧ 1 ≤ c' ∧ hs = [[.past W' ms'], logC lim (.sl 2 0 0 1 c') cut' (dr' : Int), [.row (scale c' (3 + 1)) (nthC cs')]])) := by
  unfold addM at hadd
  refine fn_of_body tds_ok follows_ Try.func18 rfl (t := .a (.c (.p 1 0 0)) :: .a (.agg (evS e x)) :: anys (Try.f18.ntmps - 2)) rfl (fun w r0 hr0 _ => ?_)
  obtain ⟨x0, x1, rfl⟩ := len2' hr0
  (repeat first | (refine And.intro ?_ ?_; first | exact rfl | ((exact fun h => absurd h (by first | decide)); intro yy; clear yy) | (rotate_left; (exact fun h => absurd h (by first | decide)); intro yy; clear yy) | decide | omega) | (with_reducible refine frc_bytesL (by first | omega | decide) ?_) | (with_reducible refine frc_bytesM (by first | omega | decide) ?_))
  refine call_same (fn_echeck hx) [0] rfl (by (repeat first | exact trivial | refine ent1 ?_)) (by (repeat first | exact trivial | refine ent1 ?_)) (fun _ _ => trivial) ?_
  rintro y hs' ⟨rfl, rfl⟩
  by_cases hce : checkM e = 0
  rotate_left
  · have k1 : decide (checkM e ≠ 0) = true := decide_eq_true hce
    rw [if_pos hce] at hadd
    simp only [Prod.mk.injEq] at hadd
    obtain ⟨rfl, rfl, h3, rfl⟩ := hadd
    subst h3
    (repeat first | (refine And.intro ?_ ?_; first | exact rfl | ((exact fun h => absurd h (by first | decide | (rw [k1]; decide))); intro yy; clear yy) | (rotate_left; (exact fun h => absurd h (by first | decide | (rw [k1]; decide))); intro yy; clear yy) | decide | omega) | (with_reducible refine frc_bytesL (by first | omega | decide) ?_) | (with_reducible refine frc_bytesM (by first | omega | decide) ?_))
    refine ⟨.a (.c (.int .i64 (checkM e))), _, ⟨[0, 1], ⟨rfl, rfl, rfl⟩, ?_⟩, W, ms, Later.refl _ _, rfl, .inl ⟨rfl, rfl, rfl⟩⟩
    (repeat first | exact trivial | refine ent1 ?_)
  rw [if_neg (by omega)] at hadd
  rw [hce]
  have e9 : decide ((0 : Int) ≠ 0) = false := by decide
  rw [if_neg (by decide), if_neg (by show ¬ e.t < 0#64; rw [BitVec.lt_def]; exact Nat.not_lt_zero _)] at hadd
  (repeat first | (refine And.intro ?_ ?_; first | exact rfl | ((exact fun h => absurd h (by first | decide | (rw [e9]; decide))); intro yy; clear yy) | (rotate_left; (exact fun h => absurd h (by first | decide | (rw [e9]; decide))); intro yy; clear yy) | decide | omega) | (with_reducible refine frc_bytesL (by first | omega | decide) ?_) | (with_reducible refine frc_bytesM (by first | omega | decide) ?_))
  refine ⟨none, [], [(0, true), (1, true), (2, true), (3, true), (4, true), (5, true), (6, true), (7, true), (8, true), (9, true), (10, true), (11, true), (12, true), (13, true), (14, true), (15, true)], [], by kernel_rfl, ?_⟩
  (repeat first | (refine And.intro ?_ ?_; first | exact rfl | ((exact fun h => absurd h (by first | decide | (rw [e9]; decide))); intro yy; clear yy) | (rotate_left; (exact fun h => absurd h (by first | decide | (rw [e9]; decide))); intro yy; clear yy) | decide | omega) | (with_reducible refine frc_bytesL (by first | omega | decide) ?_) | (with_reducible refine frc_bytesM (by first | omega | decide) ?_))
  by_cases hk : e.k = 19#8
  · have kk : decide (e.k = 19#8) = true := decide_eq_true hk
    rw [if_pos hk] at hadd
    simp only [Prod.mk.injEq] at hadd
    obtain ⟨rfl, rfl, h3, rfl⟩ := hadd
    subst h3
    (repeat first | (refine And.intro ?_ ?_; first | exact rfl | ((exact fun h => absurd h (by first | decide | (rw [kk]; decide))); intro yy; clear yy) | (rotate_left; (exact fun h => absurd h (by first | decide | (rw [kk]; decide))); intro yy; clear yy) | decide | omega) | (with_reducible refine frc_bytesL (by first | omega | decide) ?_) | (with_reducible refine frc_bytesM (by first | omega | decide) ?_))
    refine ⟨.a (.c (.int .i64 5)), _, ⟨[0, 1], ⟨rfl, rfl, rfl⟩, ?_⟩, W, ms, Later.refl _ _, rfl, .inl ⟨rfl, rfl, rfl⟩⟩
    (repeat first | exact trivial | refine ent1 ?_)
  have kk : decide (e.k = 19#8) = false := decide_eq_false hk
  rw [if_neg hk] at hadd
  (repeat first | (refine And.intro ?_ ?_; first | exact rfl | ((exact fun h => absurd h (by first | decide | (rw [kk]; decide))); intro yy; clear yy) | (rotate_left; (exact fun h => absurd h (by first | decide | (rw [kk]; decide))); intro yy; clear yy) | decide | omega) | (with_reducible refine frc_bytesL (by first | omega | decide) ?_) | (with_reducible refine frc_bytesM (by first | omega | decide) ?_))
  refine ⟨none, [], [(0, true), (1, true), (2, true), (3, true), (4, true), (5, true), (6, true), (7, true), (8, true), (9, true), (10, true)], [], by kernel_rfl, ?_⟩
  by_cases hl : lim ≤ (([] : List Ev).length : Int) + 1
  · have kl : decide (lim ≤ ((0 : Nat) : Int) + 1) = true := decide_eq_true hl
    rw [if_pos hl] at hadd
    simp only [Prod.mk.injEq] at hadd
    obtain ⟨rfl, rfl, h3, rfl⟩ := hadd
    subst h3
    (repeat first | (refine And.intro ?_ ?_; first | exact rfl | ((exact fun h => absurd h (by first | decide | (rw [kl]; decide))); intro yy; clear yy) | (rotate_left; (exact fun h => absurd h (by first | decide | (rw [kl]; decide))); intro yy; clear yy) | decide | omega) | (with_reducible refine frc_bytesL (by first | omega | decide) ?_) | (with_reducible refine frc_bytesM (by first | omega | decide) ?_))
    refine ⟨none, [], [(0, true), (1, true), (2, true), (3, true), (4, true), (5, true), (6, true), (7, true), (8, false)], [9, 10, 11, 12], by kernel_rfl, ?_⟩
    (repeat first | (refine And.intro ?_ ?_; first | exact rfl | ((exact fun h => absurd h (by first | decide | (rw [kl]; decide))); intro yy; clear yy) | (rotate_left; (exact fun h => absurd h (by first | decide | (rw [kl]; decide))); intro yy; clear yy) | decide | omega) | (with_reducible refine frc_bytesL (by first | omega | decide) ?_) | (with_reducible refine frc_bytesM (by first | omega | decide) ?_))
    refine And.intro (show 0 + 4 ≤ 4 by decide) ?_
    (repeat first | (refine And.intro ?_ ?_; first | exact rfl | ((exact fun h => absurd h (by first | decide | (rw [kl]; decide))); intro yy; clear yy) | (rotate_left; (exact fun h => absurd h (by first | decide | (rw [kl]; decide))); intro yy; clear yy) | decide | omega) | (with_reducible refine frc_bytesL (by first | omega | decide) ?_) | (with_reducible refine frc_bytesM (by first | omega | decide) ?_))
    intro cA hcA
    (repeat first | (refine And.intro ?_ ?_; first | exact rfl | ((exact fun h => absurd h (by first | decide | (rw [kl]; decide))); intro yy; clear yy) | (rotate_left; (exact fun h => absurd h (by first | decide | (rw [kl]; decide))); intro yy; clear yy) | decide | omega) | (with_reducible refine frc_bytesL (by first | omega | decide) ?_) | (with_reducible refine frc_bytesM (by first | omega | decide) ?_))
    have hR : RowAt W ms ([] ++ flat (evS ⟨19#8, e.t, [], []⟩ ⟨none, 0, 0, none, 0, 0⟩)) [⟨19#8, e.t, [], []⟩] := RowAt.nil.snoc ⟨SlAt.nul, SlAt.nul⟩
    refine ⟨.a (.c (.int .i64 11)), _, ⟨[0, 1, 4], ⟨rfl, rfl, rfl⟩, ?_⟩, W, ms, Later.refl _ _, rfl, .inr ⟨_, cA, hR, rfl, hcA, rfl⟩⟩
    (repeat first | exact trivial | refine ent1 ?_)
    refine ⟨fun j _ => eqC_cs hR.raw ?_ j, ?_⟩
    · exact fun j hj => new_cs (new := [] ++ flat (evS ⟨19#8, e.t, [], []⟩ ⟨none, 0, 0, none, 0, 0⟩)) rfl (fun j hj => updN_new hj) j hj
    (repeat first | exact trivial | refine ent1 ?_)
  · have kl : decide (lim ≤ ((0 : Nat) : Int) + 1) = false := decide_eq_false hl
    rw [if_neg hl] at hadd
    simp only [Prod.mk.injEq] at hadd
    obtain ⟨rfl, rfl, h3, rfl⟩ := hadd
    subst h3
    (repeat first | (refine And.intro ?_ ?_; first | exact rfl | ((exact fun h => absurd h (by first | decide | (rw [kl]; decide))); intro yy; clear yy) | (rotate_left; (exact fun h => absurd h (by first | decide | (rw [kl]; decide))); intro yy; clear yy) | decide | omega) | (with_reducible refine frc_bytesL (by first | omega | decide) ?_) | (with_reducible refine frc_bytesM (by first | omega | decide) ?_))
    refine ⟨none, [], [(0, true), (1, true), (2, true), (3, true), (4, true), (5, true), (6, false), (7, false)], [8, 9, 10, 11], by kernel_rfl, ?_⟩
    (repeat first | (refine And.intro ?_ ?_; first | exact rfl | ((exact fun h => absurd h (by first | decide | (rw [kl]; decide))); intro yy; clear yy) | (rotate_left; (exact fun h => absurd h (by first | decide | (rw [kl]; decide))); intro yy; clear yy) | decide | omega) | (with_reducible refine frc_bytesL (by first | omega | decide) ?_) | (with_reducible refine frc_bytesM (by first | omega | decide) ?_))
    refine call_past (fn_eclone hx (by omega) (by omega)) 0 [] rfl rfl (by (repeat first | exact trivial | refine ent1 ?_)) (by (repeat first | exact trivial | refine ent1 ?_)) (fun _ _ => trivial) (fun x hs hr => ?_) ?_
    · obtain ⟨W', ms', x', h1, _, _, rfl⟩ := hr
      exact ⟨W', ms', rfl, h1⟩
    rintro y hs' ⟨W1, ms1, x1, hL1, hx1, rfl, rfl⟩
    (repeat first | (refine And.intro ?_ ?_; first | exact rfl | ((exact fun h => absurd h (by first | decide | (rw [kl]; decide))); intro yy; clear yy) | (rotate_left; (exact fun h => absurd h (by first | decide | (rw [kl]; decide))); intro yy; clear yy) | decide | omega) | (with_reducible refine frc_bytesL (by first | omega | decide) ?_) | (with_reducible refine frc_bytesM (by first | omega | decide) ?_))
    refine And.intro (show 0 + 4 ≤ 4 by decide) ?_
    (repeat first | (refine And.intro ?_ ?_; first | exact rfl | ((exact fun h => absurd h (by first | decide | (rw [kl]; decide))); intro yy; clear yy) | (rotate_left; (exact fun h => absurd h (by first | decide | (rw [kl]; decide))); intro yy; clear yy) | decide | omega) | (with_reducible refine frc_bytesL (by first | omega | decide) ?_) | (with_reducible refine frc_bytesM (by first | omega | decide) ?_))
    intro cA hcA
    (repeat first | (refine And.intro ?_ ?_; first | exact rfl | ((exact fun h => absurd h (by first | decide | (rw [kl]; decide))); intro yy; clear yy) | (rotate_left; (exact fun h => absurd h (by first | decide | (rw [kl]; decide))); intro yy; clear yy) | decide | omega) | (with_reducible refine frc_bytesL (by first | omega | decide) ?_) | (with_reducible refine frc_bytesM (by first | omega | decide) ?_))
    have hR : RowAt W1 ms1 ([] ++ flat (evS e x1)) [e] := RowAt.nil.snoc hx1
    refine ⟨.a (.c (.int .i64 0)), _, ⟨[0, 1, 4], ⟨rfl, rfl, rfl⟩, ?_⟩, W1, ms1, hL1, rfl, .inr ⟨_, cA, hR, rfl, hcA, rfl⟩⟩
    (repeat first | exact trivial | refine ent1 ?_)
    refine ⟨fun j _ => eqC_cs hR.raw ?_ j, ?_⟩
    · exact fun j hj => new_cs (new := [] ++ flat (evS e x1)) rfl (fun j hj => updN_new hj) j hj
    (repeat first | exact trivial | refine ent1 ?_)
end Sx
end Go.Proofs.Ytdakmieapdpidaa
end

section
/-
  blog.Log.Since, List. No condition.
-/
namespace Go.Proofs.Ytdakmieapdpidaa
set_option linter.unusedVariables false
namespace Sx
open Go.RowKit Sha Vi Ev

theorem take_one {α : Type} {m : List α} {k : Nat} {e : α} (h : m[k + 0]? = some e) : (m.drop k).take 1 = [] ++ [e] := by
  have hk : k < m.length := (List.getElem?_eq_some_iff.1 h).1
  have := (List.getElem?_eq_some_iff.1 h).2
  rw [List.drop_eq_getElem_cons hk]
  simp only [List.take_succ_cons, List.take_zero, List.nil_append]
  exact congrArg (fun x => [x]) this
theorem take_next {α : Type} {m : List α} {k i : Nat} {e : α} (h : m[k + i]? = some e) : (m.drop k).take (i + 1) = (m.drop k).take i ++ [e] := by
  rw [List.take_add_one, List.getElem?_drop, h]; rfl
theorem rz_id {F : Nat → Bool} {α : Nat → Addr} {x : SC} (h : x.raw = x) : x.rz F α = x := by
  cases x <;> simp only [SC.raw] at h <;> first | rfl | cases h
theorem frc_at {x y : SC} {k : SC → Prop} (h : x = y) (hk : k y) : frcSC x k := by rw [h, frcSC_eq]; exact hk
theorem takeB_nil {n : Nat} {f : Nat → SC} {o : Nat} {k : List Seg → Prop} (h : k []) : takeB [] n f o k := h
theorem ev_at {cs : List SC} {e : Ev} {x : EvC} {kk o : Nat} {y : SC} (h : ∀ i y, (flat (evS e x))[i]? = some y → cs[kk * 4 + i]? = some y) (i : Nat) (ho : o = kk * 4 + i) (hy : (flat (evS e x))[i]? = some y) : nthC cs o = y := by
  subst ho; exact nthC_get? (h i y hy)
set_option maxRecDepth 20000 in
theorem fn_lsince0 {W : World} {ms : List Nat} (lim : Int) (cut : Bool) (dr : Int) (k : Int) : FnR Try.prog tds 22 2 [[.past W ms], logC lim (.slc none 0 0) cut dr] [.c (.p 1 0 0), .c (.int .i64 k)] (fun _ => True)
    (fun y hs => y = .a (.c (.slc none 0 0)) ∧ hs = [[.past W ms], logC lim (.slc none 0 0) cut dr]) := by
  refine fn_of_body tds_ok follows_ Try.func22 rfl (t := .a (.c (.p 1 0 0)) :: .a (.c (.int .i64 k)) :: anys (Try.f22.ntmps - 2)) rfl (fun w r0 hr _ => ?_)
  obtain ⟨x0, x1, rfl⟩ := len2' hr
  (repeat first | (refine And.intro ?_ ?_; first | exact rfl | ((exact fun h => absurd h (by first | decide)); intro yy; clear yy) | (rotate_left; (exact fun h => absurd h (by first | decide)); intro yy; clear yy) | decide | omega) | (with_reducible refine frc_bytesL (by first | omega | decide) ?_) | (with_reducible refine frc_bytesM (by first | omega | decide) ?_))
  refine ⟨none, [], [(0, true), (1, true), (2, true), (3, true), (4, true), (5, true), (6, true), (7, true), (8, true), (9, true), (10, true), (11, true), (12, true), (13, true), (14, true)], [], by kernel_rfl, ?_⟩
  (repeat first | (refine And.intro ?_ ?_; first | exact rfl | ((exact fun h => absurd h (by first | decide)); intro yy; clear yy) | (rotate_left; (exact fun h => absurd h (by first | decide)); intro yy; clear yy) | decide | omega) | (with_reducible refine frc_bytesL (by first | omega | decide) ?_) | (with_reducible refine frc_bytesM (by first | omega | decide) ?_))
  refine frcN_of (show _ = 0 by split <;> omega) ?_
  refine frcN_of (rfl : _ = 0) ?_
  refine .inr ⟨1, ?_⟩
  (repeat first | (refine And.intro ?_ ?_; first | exact rfl | ((exact fun h => absurd h (by first | decide)); intro yy; clear yy) | (rotate_left; (exact fun h => absurd h (by first | decide)); intro yy; clear yy) | decide | omega) | (with_reducible refine frc_bytesL (by first | omega | decide) ?_) | (with_reducible refine frc_bytesM (by first | omega | decide) ?_))
  refine ⟨.a (.c (.slc none 0 0)), _, ⟨[0, 1], ⟨rfl, rfl, rfl⟩, ?_⟩, rfl, rfl⟩
  (repeat first | exact trivial | refine ent1 ?_)
set_option maxRecDepth 20000 in
set_option maxHeartbeats 16000000 in
theorem fn_lsince1 {W : World} {ms : List Nat} {cs : List SC} {m : List Ev} {n c : Nat} (hr : RowAt W ms cs m) (hn : m.length = n) (hn0 : 0 < n) (hn2 : n ≤ 100) (hc : n ≤ c) (hm : ∀ e ∈ m, e.N.length ≤ 1000 ∧ e.D.length ≤ 1000) (lim : Int) (cut : Bool) (dr : Int) (at_ : Int) (k : Nat) (hk : (if (n : Int) < if at_ < 0 then 0 else at_ then (n : Int) else if at_ < 0 then 0 else at_) = (k : Int)) :
    FnR Try.prog tds 22 3 [[.past W ms], logC lim (.sl 2 0 0 n c) cut dr, [.row (scale c (3 + 1)) (nthC cs)]] [.c (.p 1 0 0), .c (.int .i64 at_)] (fun _ => True)
    (fun y hs => ∃ a' c' W' ms', Later W ms W' ms' ∧ EvsAt W' ms' a' (n - k) c' (m.drop k) ∧ y = .a (.c (.slc a' (n - k) c')) ∧ hs = [[.past W' ms'], logC lim (.sl 2 0 0 n c) cut dr, [.row (scale c (3 + 1)) (nthC cs)]]) := by
  refine fn_of_bodyW tds_ok follows_ Try.func22 rfl (t := .a (.c (.p 1 0 0)) :: .a (.c (.int .i64 at_)) :: anys (Try.f22.ntmps - 2)) rfl (fun w r0 hr0 _ => ?_)
  obtain ⟨x0, x1, x2, rfl⟩ := len3' hr0
  have hkn : k ≤ n := by split at hk <;> omega
  (repeat first | (refine And.intro ?_ ?_; first | exact rfl | ((exact fun h => absurd h (by first | decide)); intro yy; clear yy) | (rotate_left; (exact fun h => absurd h (by first | decide)); intro yy; clear yy) | decide | omega) | (with_reducible refine frc_bytesL (by first | omega | decide) ?_) | (with_reducible refine frc_bytesM (by first | omega | decide) ?_))
  refine ⟨none, [], [(0, true), (1, true), (2, true), (3, true), (4, true), (5, true), (6, true), (7, true), (8, true), (9, true), (10, true), (11, true), (12, true), (13, true), (14, true)], [], by kernel_rfl, ?_⟩
  (repeat first | (refine And.intro ?_ ?_; first | exact rfl | ((exact fun h => absurd h (by first | decide)); intro yy; clear yy) | (rotate_left; (exact fun h => absurd h (by first | decide)); intro yy; clear yy) | decide | omega) | (with_reducible refine frc_bytesL (by first | omega | decide) ?_) | (with_reducible refine frc_bytesM (by first | omega | decide) ?_))
  refine frcN_of (by rw [hk]; rfl : _ = k) ?_
  refine frcN_of (rfl : _ = n) ?_
  obtain ⟨o9, ho9⟩ : ∃ o9, (if c = k then 0 else 0 + k * 4) = o9 := ⟨_, rfl⟩
  refine frcN_of ho9 ?_
  refine frcN_of (rfl : n - k = n - k) ?_
  refine frcN_of (rfl : c - k = c - k) ?_
  by_cases hkz : k = n
  · subst hkz
    have k0 : decide ((0 : Int) < ((k - k : Nat) : Int)) = false := decide_eq_false (by omega)
    refine .inr ⟨1, ?_⟩
    (repeat first | (refine And.intro ?_ ?_; first | exact rfl | ((exact fun h => absurd h (by first | decide | (rw [k0]; decide))); intro yy; clear yy) | (rotate_left; (exact fun h => absurd h (by first | decide | (rw [k0]; decide))); intro yy; clear yy) | decide | omega) | (with_reducible refine frc_bytesL (by first | omega | decide) ?_) | (with_reducible refine frc_bytesM (by first | omega | decide) ?_))
    refine FinW.of ⟨.a (.c (.slc none 0 0)), _, ⟨[0, 1, 2], ⟨rfl, rfl, rfl⟩, ?_⟩, none, 0, W, ms, Later.refl _ _, by rw [← hn, List.drop_length, Nat.sub_self]; exact EvsAt.nul, by rw [Nat.sub_self], rfl⟩
    (repeat first | exact trivial | refine ent1 ?_)
    refine ⟨fun j _ => eqC_cs hr.raw (fun _ _ => rfl) j, ?_⟩
    (repeat first | exact trivial | refine ent1 ?_)
  obtain ⟨N, hN⟩ : ∃ N, n - k = N := ⟨_, rfl⟩
  have ho : o9 = k * 4 := by rw [← ho9, if_neg (by omega)]; omega
  subst ho
  rw [hN]
  refine .inl ⟨Option (World × List Nat × List SC × Nat × Nat), fun x => match x with
    | none => ⟨[.any, .any, .any, .any, .any, .a (.c (.slc none 0 0)), .any, .any, .any, .any, .any, .any, .any, .any, .any, .any, .any, .any, .any, .any, .any, .any, .a (.c (.sl 2 0 (k * 4) N (c - k))), .a (.c (.int .i64 ((N : Nat)))), .a (.c (.int .i64 (0))), .any, .any, .any, .any, .any, .any, .any, .any, .any, .any], [[.past W ms], logC lim (.sl 2 0 0 n c) cut dr, [.row (scale c (3 + 1)) (nthC cs)]]⟩
    | some (W', ms', csL, cL, i) => ⟨[.any, .any, .any, .any, .any, .a (.c (.sl 3 0 0 i cL)), .any, .any, .any, .any, .any, .any, .any, .any, .any, .any, .any, .any, .any, .any, .any, .any, .a (.c (.sl 2 0 (k * 4) N (c - k))), .a (.c (.int .i64 ((N : Nat)))), .a (.c (.int .i64 ((i : Nat)))), .any, .any, .any, .any, .any, .any, .any, .any, .any, .any], [[.past W' ms'], logC lim (.sl 2 0 0 n c) cut dr, [.row (scale c (3 + 1)) (nthC cs)], [.row (scale cL (3 + 1)) (nthC csL)]]⟩,
    fun x => match x with
    | none => True
    | some (W', ms', csL, cL, i) => Later W ms W' ms' ∧ RowAt W' ms' csL ((m.drop k).take i) ∧ 1 ≤ i ∧ i ≤ N ∧ i ≤ cL,
    fun x => match x with
    | none => N + 1
    | some (_, _, _, _, i) => N - i, ⟨none, [0, 1, 2], ⟨⟨rfl, rfl, rfl⟩, ?_⟩, trivial⟩, fun x hx => ?_⟩
  · (repeat first | exact trivial | refine ent1 ?_)
    refine ⟨fun j _ => eqC_cs hr.raw (fun _ _ => rfl) j, ?_⟩
    (repeat first | exact trivial | refine ent1 ?_)
    done
  rcases x with _ | ⟨W', ms', csL, cL, i⟩
  · have k0 : decide ((0 : Int) < (N : Int)) = true := decide_eq_true (by omega)
    obtain ⟨e, he⟩ : ∃ e, m[k + 0]? = some e := ⟨_, List.getElem?_eq_getElem (by omega)⟩
    obtain ⟨x, hzc, hx0⟩ := hr.elt (k + 0) e he
    have hx := hx0
    obtain ⟨heN, heD⟩ := hm e (List.mem_of_getElem? he)
    (repeat first | (refine And.intro ?_ ?_; first | exact rfl | ((exact fun h => absurd h (by first | decide | (rw [k0]; decide))); intro yy; clear yy) | (rotate_left; (exact fun h => absurd h (by first | decide | (rw [k0]; decide))); intro yy; clear yy) | decide | omega) | (with_reducible refine frc_bytesL (by first | omega | decide) ?_) | (with_reducible refine frc_bytesM (by first | omega | decide) ?_))
    refine And.intro (show (0 : Int).toNat * 4 + k * 4 < scale c (3 + 1) by rw [sc4]; omega) ?_
    refine And.intro (show (0 : Int).toNat * 4 + k * 4 + 1 < scale c (3 + 1) by rw [sc4]; omega) ?_
    refine And.intro (show (0 : Int).toNat * 4 + k * 4 + 2 < scale c (3 + 1) by rw [sc4]; omega) ?_
    refine And.intro (show (0 : Int).toNat * 4 + k * 4 + 3 < scale c (3 + 1) by rw [sc4]; omega) ?_
    refine takeB_nil ?_
    refine frc_at (y := .slc x.aD x.nD x.cD) (ev_at hzc 3 (show (0 : Int).toNat * 4 + k * 4 + 3 = (k + 0) * 4 + 3 by omega) rfl) ?_
    refine frc_at (y := .slc x.aN x.nN x.cN) (ev_at hzc 2 (show (0 : Int).toNat * 4 + k * 4 + 2 = (k + 0) * 4 + 2 by omega) rfl) ?_
    refine frc_at (y := .w64 e.t) (ev_at hzc 1 (show (0 : Int).toNat * 4 + k * 4 + 1 = (k + 0) * 4 + 1 by omega) rfl) ?_
    refine frc_at (y := .w8 e.k) (ev_at hzc 0 (show (0 : Int).toNat * 4 + k * 4 = (k + 0) * 4 + 0 by omega) rfl) ?_
    (repeat first | (refine And.intro ?_ ?_; first | exact rfl | ((exact fun h => absurd h (by first | decide | (rw [k0]; decide))); intro yy; clear yy) | (rotate_left; (exact fun h => absurd h (by first | decide | (rw [k0]; decide))); intro yy; clear yy) | decide | omega) | (with_reducible refine frc_bytesL (by first | omega | decide) ?_) | (with_reducible refine frc_bytesM (by first | omega | decide) ?_))
    refine call_past (fn_eclone (show EvAt W ms x e from hx) (by omega) (by omega)) 0 [] rfl rfl (by (repeat first | exact trivial | refine ent1 ?_)) (by (repeat first | exact trivial | refine ent1 ?_)) (fun _ _ => trivial) (fun x hs hr => ?_) ?_
    · obtain ⟨W', ms', x', h1, _, _, rfl⟩ := hr
      exact ⟨W', ms', rfl, h1⟩
    rintro y hs' ⟨W1, ms1, x1, hL1, hx1, rfl, rfl⟩
    (repeat first | (refine And.intro ?_ ?_; first | exact rfl | ((exact fun h => absurd h (by first | decide | (rw [k0]; decide))); intro yy; clear yy) | (rotate_left; (exact fun h => absurd h (by first | decide | (rw [k0]; decide))); intro yy; clear yy) | decide | omega) | (with_reducible refine frc_bytesL (by first | omega | decide) ?_) | (with_reducible refine frc_bytesM (by first | omega | decide) ?_))
    refine And.intro (show 0 + 4 ≤ 4 by decide) ?_
    (repeat first | (refine And.intro ?_ ?_; first | exact rfl | ((exact fun h => absurd h (by first | decide | (rw [k0]; decide))); intro yy; clear yy) | (rotate_left; (exact fun h => absurd h (by first | decide | (rw [k0]; decide))); intro yy; clear yy) | decide | omega) | (with_reducible refine frc_bytesL (by first | omega | decide) ?_) | (with_reducible refine frc_bytesM (by first | omega | decide) ?_))
    intro cA hcA
    (repeat first | (refine And.intro ?_ ?_; first | exact rfl | ((exact fun h => absurd h (by first | decide | (rw [k0]; decide))); intro yy; clear yy) | (rotate_left; (exact fun h => absurd h (by first | decide | (rw [k0]; decide))); intro yy; clear yy) | decide | omega) | (with_reducible refine frc_bytesL (by first | omega | decide) ?_) | (with_reducible refine frc_bytesM (by first | omega | decide) ?_))
    have hR : RowAt W1 ms1 ([] ++ flat (evS e x1)) ((m.drop k).take 1) := by
      rw [take_one he]; exact RowAt.nil.snoc hx1
    refine ⟨some (W1, ms1, [] ++ flat (evS e x1), cA, 1), [0, 1, 2, 5], ⟨⟨rfl, rfl, rfl⟩, ?_⟩, ⟨hL1, hR, Nat.le_refl _, by omega, hcA⟩, (show N - 1 < N + 1 by omega)⟩
    (repeat first | exact trivial | refine ent1 ?_)
    refine ⟨fun j _ => eqC_cs hr.raw (fun _ _ => rfl) j, ?_⟩
    (repeat first | exact trivial | refine ent1 ?_)
    refine ⟨fun j _ => eqC_cs hR.raw ?_ j, ?_⟩
    · exact fun j hj => new_cs (new := [] ++ flat (evS e x1)) rfl (fun j hj => updN_new hj) j hj
    (repeat first | exact trivial | refine ent1 ?_)
  · have hx : Later W ms W' ms' ∧ RowAt W' ms' csL ((m.drop k).take i) ∧ 1 ≤ i ∧ i ≤ N ∧ i ≤ cL := hx
    obtain ⟨hLL, hrL, hi1, hiN, hicL⟩ := hx
    by_cases hi : i < N
    · have k0 : decide ((i : Int) < (N : Int)) = true := decide_eq_true (by omega)
      obtain ⟨e, he⟩ : ∃ e, m[k + i]? = some e := ⟨_, List.getElem?_eq_getElem (by omega)⟩
      obtain ⟨x, hzc, hx0⟩ := hr.elt (k + i) e he
      have hx := hx0.later hLL
      obtain ⟨heN, heD⟩ := hm e (List.mem_of_getElem? he)
      (repeat first | (refine And.intro ?_ ?_; first | exact rfl | ((exact fun h => absurd h (by first | decide | (rw [k0]; decide))); intro yy; clear yy) | (rotate_left; (exact fun h => absurd h (by first | decide | (rw [k0]; decide))); intro yy; clear yy) | decide | omega) | (with_reducible refine frc_bytesL (by first | omega | decide) ?_) | (with_reducible refine frc_bytesM (by first | omega | decide) ?_))
      refine And.intro (show ((i : Int)).toNat * 4 + k * 4 < scale c (3 + 1) by rw [sc4]; omega) ?_
      refine And.intro (show ((i : Int)).toNat * 4 + k * 4 + 1 < scale c (3 + 1) by rw [sc4]; omega) ?_
      refine And.intro (show ((i : Int)).toNat * 4 + k * 4 + 2 < scale c (3 + 1) by rw [sc4]; omega) ?_
      refine And.intro (show ((i : Int)).toNat * 4 + k * 4 + 3 < scale c (3 + 1) by rw [sc4]; omega) ?_
      refine takeB_nil ?_
      refine frc_at (y := .slc x.aD x.nD x.cD) (ev_at hzc 3 (show ((i : Int)).toNat * 4 + k * 4 + 3 = (k + i) * 4 + 3 by omega) rfl) ?_
      refine frc_at (y := .slc x.aN x.nN x.cN) (ev_at hzc 2 (show ((i : Int)).toNat * 4 + k * 4 + 2 = (k + i) * 4 + 2 by omega) rfl) ?_
      refine frc_at (y := .w64 e.t) (ev_at hzc 1 (show ((i : Int)).toNat * 4 + k * 4 + 1 = (k + i) * 4 + 1 by omega) rfl) ?_
      refine frc_at (y := .w8 e.k) (ev_at hzc 0 (show ((i : Int)).toNat * 4 + k * 4 = (k + i) * 4 + 0 by omega) rfl) ?_
      (repeat first | (refine And.intro ?_ ?_; first | exact rfl | ((exact fun h => absurd h (by first | decide | (rw [k0]; decide))); intro yy; clear yy) | (rotate_left; (exact fun h => absurd h (by first | decide | (rw [k0]; decide))); intro yy; clear yy) | decide | omega) | (with_reducible refine frc_bytesL (by first | omega | decide) ?_) | (with_reducible refine frc_bytesM (by first | omega | decide) ?_))
      refine call_past (fn_eclone (show EvAt W' ms' x e from hx) (by omega) (by omega)) 0 [] rfl rfl (by (repeat first | exact trivial | refine ent1 ?_)) (by (repeat first | exact trivial | refine ent1 ?_)) (fun _ _ => trivial) (fun x hs hr => ?_) ?_
      · obtain ⟨W', ms', x', h1, _, _, rfl⟩ := hr
        exact ⟨W', ms', rfl, h1⟩
      rintro y hs' ⟨W1, ms1, x1, hL1, hx1, rfl, rfl⟩
      (repeat first | (refine And.intro ?_ ?_; first | exact rfl | ((exact fun h => absurd h (by first | decide | (rw [k0]; decide))); intro yy; clear yy) | (rotate_left; (exact fun h => absurd h (by first | decide | (rw [k0]; decide))); intro yy; clear yy) | decide | omega) | (with_reducible refine frc_bytesL (by first | omega | decide) ?_) | (with_reducible refine frc_bytesM (by first | omega | decide) ?_))
      refine And.intro (show 0 + 4 ≤ 4 by decide) ?_
      (repeat first | (refine And.intro ?_ ?_; first | exact rfl | ((exact fun h => absurd h (by first | decide | (rw [k0]; decide))); intro yy; clear yy) | (rotate_left; (exact fun h => absurd h (by first | decide | (rw [k0]; decide))); intro yy; clear yy) | decide | omega) | (with_reducible refine frc_bytesL (by first | omega | decide) ?_) | (with_reducible refine frc_bytesM (by first | omega | decide) ?_))
      refine And.intro ⟨hicL, Nat.le_of_eq (Nat.zero_add _), (show (i + 1) * 64 ≤ 140737488355328 by omega)⟩ ?_
      intro cA hcA
      (repeat first | (refine And.intro ?_ ?_; first | exact rfl | ((exact fun h => absurd h (by first | decide | (rw [k0]; decide))); intro yy; clear yy) | (rotate_left; (exact fun h => absurd h (by first | decide | (rw [k0]; decide))); intro yy; clear yy) | decide | omega) | (with_reducible refine frc_bytesL (by first | omega | decide) ?_) | (with_reducible refine frc_bytesM (by first | omega | decide) ?_))
      have hR : RowAt W1 ms1 (csL ++ flat (evS e x1)) ((m.drop k).take (i + 1)) := by
        rw [take_next he]; exact (hrL.later hL1).snoc hx1
      refine ⟨some (W1, ms1, csL ++ flat (evS e x1), cA, i + 1), [0, 1, 2, 6], ⟨⟨rfl, rfl, rfl⟩, ?_⟩, ⟨hLL.trans hL1, hR, by omega, by omega, hcA⟩, (show N - (i + 1) < N - i by omega)⟩
      (repeat first | exact trivial | refine ent1 ?_)
      refine ⟨fun j _ => eqC_cs hr.raw (fun _ _ => rfl) j, ?_⟩
      (repeat first | exact trivial | refine ent1 ?_)
      refine ⟨fun j _ => eqC_cs hR.raw ?_ j, ?_⟩
      · exact fun j hj => app_cs (by rw [hrL.len, List.length_take, List.length_drop]; omega) (fun _ _ => rfl) rfl (fun j hj => updN_new hj) j hj
      (repeat first | exact trivial | refine ent1 ?_)
    · have k0 : decide ((i : Int) < (N : Int)) = false := decide_eq_false (by omega)
      obtain rfl : i = N := by omega
      have hfull : (m.drop k).take i = m.drop k := List.take_of_length_le (by rw [List.length_drop]; omega)
      rw [hfull] at hrL
      (repeat first | (refine And.intro ?_ ?_; first | exact rfl | ((exact fun h => absurd h (by first | decide | (rw [k0]; decide))); intro yy; clear yy) | (rotate_left; (exact fun h => absurd h (by first | decide | (rw [k0]; decide))); intro yy; clear yy) | decide | omega) | (with_reducible refine frc_bytesL (by first | omega | decide) ?_) | (with_reducible refine frc_bytesM (by first | omega | decide) ?_))
      refine finW_frz [0, 1, 2] rfl (Nat.zero_lt_succ 2) cx0_m rfl (fun W9 ms9 α hL9 hI => ?_)
      refine ⟨.a (.c (.slc (some ((α 3).add (0 + 0))) i cL)), [logC lim (.sl 2 0 0 n c) cut dr, [.row (scale c (3 + 1)) (nthC cs)]], ⟨⟨rfl, rfl, rfl⟩, ?_⟩, some ((α 3).add (0 + 0)), cL, W9, ms9, hLL.trans hL9, hrL.frz (F := fun j => !memB j [0, 1, 2]) hL9 (hI 3 rfl) (by rw [List.length_drop]; omega) hicL (by omega), rfl, rfl⟩
      (repeat first | exact trivial | refine ent1 ?_)
      refine ⟨fun j _ => eqC_cs hr.raw (fun j hj => rz_id (hr.raw _ (nthC_mem hj))) j, ?_⟩
      (repeat first | exact trivial | refine ent1 ?_)
end Sx
end Go.Proofs.Ytdakmieapdpidaa
end

section
/-
  blog.Log.List. No condition.
-/
namespace Go.Proofs.Ytdakmieapdpidaa
set_option linter.unusedVariables false
namespace Sx
open Go.RowKit Sha Vi Ev

set_option maxRecDepth 20000 in
theorem fn_llist0 {W : World} {ms : List Nat} (lim : Int) (cut : Bool) (dr : Int) : FnR Try.prog tds 20 2 [[.past W ms], logC lim (.slc none 0 0) cut dr] [.c (.p 1 0 0)] (fun _ => True)
    (fun y hs => y = .a (.c (.slc none 0 0)) ∧ hs = [[.past W ms], logC lim (.slc none 0 0) cut dr]) := by
  refine fn_of_body tds_ok follows_ Try.func20 rfl (t := .a (.c (.p 1 0 0)) :: anys (Try.f20.ntmps - 1)) rfl (fun w r0 hr _ => ?_)
  obtain ⟨x0, x1, rfl⟩ := len2' hr
  (repeat first | (refine And.intro ?_ ?_; first | exact rfl | ((exact fun h => absurd h (by first | decide)); intro yy; clear yy) | (rotate_left; (exact fun h => absurd h (by first | decide)); intro yy; clear yy) | decide | omega) | (with_reducible refine frc_bytesL (by first | omega | decide) ?_) | (with_reducible refine frc_bytesM (by first | omega | decide) ?_))
  refine call_same (fn_lsince0 (W := W) (ms := ms) lim cut dr 0) [0, 1] rfl (by (repeat first | exact trivial | refine ent1 ?_)) (by (repeat first | exact trivial | refine ent1 ?_)) (fun _ _ => trivial) ?_
  rintro y hs' ⟨rfl, rfl⟩
  (repeat first | (refine And.intro ?_ ?_; first | exact rfl | ((exact fun h => absurd h (by first | decide)); intro yy; clear yy) | (rotate_left; (exact fun h => absurd h (by first | decide)); intro yy; clear yy) | decide | omega) | (with_reducible refine frc_bytesL (by first | omega | decide) ?_) | (with_reducible refine frc_bytesM (by first | omega | decide) ?_))
  refine ⟨.a (.c (.slc none 0 0)), _, ⟨[0, 1], ⟨rfl, rfl, rfl⟩, ?_⟩, rfl, rfl⟩
  (repeat first | exact trivial | refine ent1 ?_)
set_option maxRecDepth 20000 in
theorem fn_llist1 {W : World} {ms : List Nat} {cs : List SC} {m : List Ev} {n c : Nat} (hr : RowAt W ms cs m) (hn : m.length = n) (hn0 : 0 < n) (hn2 : n ≤ 100) (hc : n ≤ c) (hm : ∀ e ∈ m, e.N.length ≤ 1000 ∧ e.D.length ≤ 1000) (lim : Int) (cut : Bool) (dr : Int) :
    FnR Try.prog tds 20 3 [[.past W ms], logC lim (.sl 2 0 0 n c) cut dr, [.row (scale c (3 + 1)) (nthC cs)]] [.c (.p 1 0 0)] (fun _ => True)
    (fun y hs => ∃ a' c' W' ms', Later W ms W' ms' ∧ EvsAt W' ms' a' n c' m ∧ y = .a (.c (.slc a' n c')) ∧ hs = [[.past W' ms'], logC lim (.sl 2 0 0 n c) cut dr, [.row (scale c (3 + 1)) (nthC cs)]]) := by
  refine fn_of_body tds_ok follows_ Try.func20 rfl (t := .a (.c (.p 1 0 0)) :: anys (Try.f20.ntmps - 1)) rfl (fun w r0 hr0 _ => ?_)
  obtain ⟨x0, x1, x2, rfl⟩ := len3' hr0
  (repeat first | (refine And.intro ?_ ?_; first | exact rfl | ((exact fun h => absurd h (by first | decide)); intro yy; clear yy) | (rotate_left; (exact fun h => absurd h (by first | decide)); intro yy; clear yy) | decide | omega) | (with_reducible refine frc_bytesL (by first | omega | decide) ?_) | (with_reducible refine frc_bytesM (by first | omega | decide) ?_))
  refine call_past (fn_lsince1 hr hn hn0 hn2 hc hm lim cut dr 0 0 (by rw [show (if (0 : Int) < 0 then (0 : Int) else 0) = 0 by decide, if_neg (by omega)]; rfl)) 0 [1, 2] rfl rfl (by (repeat first | exact trivial | refine ent1 ?_)) (by (repeat first | exact trivial | refine ent1 ?_); refine ⟨fun j _ => eqC_cs hr.raw (fun _ _ => rfl) j, ?_⟩; (repeat first | exact trivial | refine ent1 ?_)) (fun _ _ => trivial) (fun x hs hr => ?_) ?_
  · obtain ⟨a', c', W', ms', h1, _, _, rfl⟩ := hr
    exact ⟨W', ms', rfl, h1⟩
  rintro y hs' ⟨a', c', W', ms', hL, hE, rfl, rfl⟩
  rw [Nat.sub_zero] at hE ⊢
  (repeat first | (refine And.intro ?_ ?_; first | exact rfl | ((exact fun h => absurd h (by first | decide)); intro yy; clear yy) | (rotate_left; (exact fun h => absurd h (by first | decide)); intro yy; clear yy) | decide | omega) | (with_reducible refine frc_bytesL (by first | omega | decide) ?_) | (with_reducible refine frc_bytesM (by first | omega | decide) ?_))
  refine ⟨.a (.c (.slc a' n c')), _, ⟨[0, 1, 2], ⟨rfl, rfl, rfl⟩, ?_⟩, a', c', W', ms', hL, hE, rfl, rfl⟩
  (repeat first | exact trivial | refine ent1 ?_)
  refine ⟨fun j _ => eqC_cs hr.raw (fun _ _ => rfl) j, ?_⟩
  (repeat first | exact trivial | refine ent1 ?_)
end Sx
end Go.Proofs.Ytdakmieapdpidaa
end
