/-
  Texts of this claim, part 9: EoN, EoP, EoQ, EoR, EoS, VrA, EoT, EoU, EoV, EoW, EoX, EoY, Sxw, Sxw2, Sxv, Sxs, EoZ. No condition of its own.
-/
import Derived.OpenShut
import Derived.ChangeArms
import Derived.Test.YtdakmieapdpidaaG8
section
/-
  The statements' own functions: Awake, Same (binnaclelaw25). No condition.
-/
namespace Go.Proofs.Ytdakmieapdpidaa
set_option linter.unusedVariables false
namespace Ev
theorem enc_nil : encM [] = ([66#8, 73#8, 78#8, 49#8, 0#8], 0) := by decide +kernel
theorem sameE_iff {e f : Ev} : sameE e f ↔ e = f := by
  cases e; cases f
  unfold sameE
  simp only [Ev.mk.injEq]
theorem same_all {l m : List Ev} (hn : l.length = m.length) (h : ∀ (i : Nat) (e f : Ev), l[i]? = some e → m[i]? = some f → e = f) : l = m := by
  refine List.ext_getElem? fun i => ?_
  by_cases hi : i < l.length
  · rw [List.getElem?_eq_getElem hi, List.getElem?_eq_getElem (by omega)]
    exact congrArg some (h i _ _ (List.getElem?_eq_getElem hi) (List.getElem?_eq_getElem (by omega)))
  · rw [List.getElem?_eq_none (by omega), List.getElem?_eq_none (by omega)]
end Ev
namespace Sx
open Go.RowKit Sha Vi Ev

set_option maxRecDepth 20000 in
theorem fn_bawake {W : World} {ms : List Nat} : FnR Try.prog tds 7 1 [[.past W ms]] [] (fun _ => True) (fun y hs => y = .a (.c (.bool true)) ∧ hs = [[.past W ms]]) := by
  refine fn_of_body tds_ok follows_ Try.func7 rfl (t := anys Try.f7.ntmps) rfl (fun w r0 hr0 _ => ?_)
  obtain ⟨x0, rfl⟩ := List.length_eq_one_iff.1 hr0
  (repeat first | (refine And.intro ?_ ?_; first | exact rfl | ((exact fun h => absurd h (by first | decide)); intro yy; clear yy) | (rotate_left; (exact fun h => absurd h (by first | decide)); intro yy; clear yy) | decide | omega) | (with_reducible refine frc_bytesL (by first | omega | decide) ?_) | (with_reducible refine frc_bytesM (by first | omega | decide) ?_))
  refine call_same (fn_bencode (W := W) (ms := ms) EvsAt.nul) [0] rfl (by (repeat first | exact trivial | refine ent1 ?_)) (by (repeat first | exact trivial | refine ent1 ?_)) (fun _ _ => trivial) ?_
  rintro x hs' ⟨-, hk⟩
  obtain ⟨t, e, hM, ht, rfl, rfl⟩ := hk (by omega)
  rw [enc_nil] at hM
  obtain ⟨htl, rfl⟩ : t.l = [66#8, 73#8, 78#8, 49#8, 0#8] ∧ 0 = e := by simp only [Prod.mk.injEq] at hM; exact ⟨hM.1.symm, hM.2⟩
  (repeat first | (refine And.intro ?_ ?_; first | exact rfl | ((exact fun h => absurd h (by first | decide)); intro yy; clear yy) | (rotate_left; (exact fun h => absurd h (by first | decide)); intro yy; clear yy) | decide | omega) | (with_reducible refine frc_bytesL (by first | omega | decide) ?_) | (with_reducible refine frc_bytesM (by first | omega | decide) ?_))
  refine sn_btsM rfl ht.fit (fun h => by rw [ht.nil h]; rfl) (fun g hg => ?_)
  refine ⟨U8 t.l, ⟨U8_len _, fun q hq => by rw [hg q hq, U8_get _ _ hq]⟩, ?_⟩
  (repeat first | (refine And.intro ?_ ?_; first | exact rfl | ((exact fun h => absurd h (by first | decide)); intro yy; clear yy) | (rotate_left; (exact fun h => absurd h (by first | decide)); intro yy; clear yy) | decide | omega) | (with_reducible refine frc_bytesL (by first | omega | decide) ?_) | (with_reducible refine frc_bytesM (by first | omega | decide) ?_))
  have hb : decide (U8 t.l = [66, 73, 78, 49, 0]) = true := by rw [htl]; rfl
  refine ⟨.a (.c (.bool true)), [[.past W ms]], ⟨[0], ⟨rfl, rfl, rfl⟩, ?_⟩, rfl, rfl⟩
  refine And.intro hb ?_
  (repeat first | exact trivial | refine ent1 ?_)
set_option maxRecDepth 20000 in
set_option maxHeartbeats 8000000 in
theorem fn_bsame {W : World} {ms : List Nat} {a b : Option Addr} {n m c d : Nat} {l k : List Ev} (h1 : EvsAt W ms a n c l) (h2 : EvsAt W ms b m d k) : FnR Try.prog tds 15 1 [[.past W ms]] [.c (.slc a n c), .c (.slc b m d)] (fun _ => True)
    (fun y hs => (∃ r : Bool, (r = true ↔ l = k) ∧ y = .a (.c (.bool r))) ∧ hs = [[.past W ms]]) := by
  have hn := h1.len
  have hm := h2.len
  have hcap := h1.cap
  refine fn_of_body tds_ok follows_ Try.func15 rfl (t := .a (.c (.slc a n c)) :: .a (.c (.slc b m d)) :: anys (Try.f15.ntmps - 2)) rfl (fun w r0 hr _ => ?_)
  obtain ⟨x0, rfl⟩ := List.length_eq_one_iff.1 hr
  (repeat first | (refine And.intro ?_ ?_; first | exact rfl | ((exact fun h => absurd h (by first | decide)); intro yy; clear yy) | (rotate_left; (exact fun h => absurd h (by first | decide)); intro yy; clear yy) | decide | omega) | (with_reducible refine frc_bytesL (by first | omega | decide) ?_) | (with_reducible refine frc_bytesM (by first | omega | decide) ?_))
  by_cases g1 : n ≠ m
  · have k1 : decide ((n : Int) ≠ (m : Int)) = true := decide_eq_true (by omega)
    (repeat first | (refine And.intro ?_ ?_; first | exact rfl | ((exact fun h => absurd h (by first | decide | (rw [k1]; decide))); intro yy; clear yy) | (rotate_left; (exact fun h => absurd h (by first | decide | (rw [k1]; decide))); intro yy; clear yy) | decide | omega) | (with_reducible refine frc_bytesL (by first | omega | decide) ?_) | (with_reducible refine frc_bytesM (by first | omega | decide) ?_))
    exact ⟨.a (.c (.bool false)), [[.past W ms]], ⟨[0], ⟨rfl, rfl, rfl⟩, by (repeat first | exact trivial | refine ent1 ?_)⟩, ⟨false, ⟨fun h => Bool.noConfusion h, fun h => absurd (congrArg List.length h) (by omega)⟩, rfl⟩, rfl⟩
  have k1 : decide ((n : Int) ≠ (m : Int)) = false := decide_eq_false (by omega)
  obtain rfl : n = m := by omega
  (repeat first | (refine And.intro ?_ ?_; first | exact rfl | ((exact fun h => absurd h (by first | decide | (rw [k1]; decide))); intro yy; clear yy) | (rotate_left; (exact fun h => absurd h (by first | decide | (rw [k1]; decide))); intro yy; clear yy) | decide | omega) | (with_reducible refine frc_bytesL (by first | omega | decide) ?_) | (with_reducible refine frc_bytesM (by first | omega | decide) ?_))
  refine .inl ⟨Nat, fun i => ⟨[.a (.c (.slc a n c)), .a (.c (.slc b n d)), .any, .any, .any, .any, .any, .any, .any, .any, .any, .any, .a (.c (.int .i64 (↑n))), .a (.c (.int .i64 (↑i))), .any, .any, .any, .any, .any, .any, .any, .any, .any, .any, .any, .any, .any], [[.past W ms]]⟩, fun i => i ≤ n ∧ ∀ j e f, j < i → l[j]? = some e → k[j]? = some f → sameE e f, fun i => n - i, ⟨0, [0], ⟨⟨rfl, rfl, rfl⟩, by (repeat first | exact trivial | refine ent1 ?_)⟩, Nat.zero_le _, fun j e f hj => absurd hj (Nat.not_lt_zero _)⟩, fun i ⟨hi, hall⟩ => ?_⟩
  refine And.intro (fun hlt => ?_) (fun hge => ?_)
  · have hlt : i < n := by have : (i : Int) < (n : Int) := of_decide_eq_true hlt; omega
    obtain ⟨e, he⟩ : ∃ e, l[i]? = some e := ⟨_, List.getElem?_eq_getElem (by omega)⟩
    obtain ⟨f, hf⟩ : ∃ f, k[i]? = some f := ⟨_, List.getElem?_eq_getElem (by omega)⟩
    cases ha : a with
    | none => have := h1.nil ha; have := h1.le; omega
    | some A =>
    cases hb : b with
    | none => have := h2.nil hb; have := h2.le; omega
    | some B =>
    obtain ⟨x, him, hx⟩ := h1.elt A ha i e he
    obtain ⟨y, hjm, hy⟩ := h2.elt B hb i f hf
    subst ha; subst hb
    (repeat first | (refine And.intro ?_ ?_; first | exact rfl | ((exact fun h => absurd h (by first | decide)); intro yy; clear yy) | (rotate_left; (exact fun h => absurd h (by first | decide)); intro yy; clear yy) | decide | omega) | (with_reducible refine frc_bytesL (by first | omega | decide) ?_) | (with_reducible refine frc_bytesM (by first | omega | decide) ?_))
    refine ⟨none, [], [(0, true), (1, true), (2, true), (3, true), (4, true), (5, true), (6, true), (7, true), (8, false), (9, true)], [], by kernel_rfl, ?_⟩
    refine And.intro (show (0 : Int) ≤ (i : Int) ∧ (i : Int) < (n : Int) by omega) ?_
    refine ⟨evS e x, ⟨RawAt.past (i := 0) rfl him, rfl⟩, ?_⟩
    refine And.intro (show (0 : Int) ≤ (i : Int) ∧ (i : Int) < (n : Int) by omega) ?_
    refine ⟨evS f y, ⟨RawAt.past (i := 0) rfl hjm, rfl⟩, ?_⟩
    (repeat first | (refine And.intro ?_ ?_; first | exact rfl | ((exact fun h => absurd h (by first | decide)); intro yy; clear yy) | (rotate_left; (exact fun h => absurd h (by first | decide)); intro yy; clear yy) | decide | omega) | (with_reducible refine frc_bytesL (by first | omega | decide) ?_) | (with_reducible refine frc_bytesM (by first | omega | decide) ?_))
    refine call_same (fn_esame hx hy) [0] rfl (by (repeat first | exact trivial | refine ent1 ?_)) (by (repeat first | exact trivial | refine ent1 ?_)) (fun _ _ => trivial) ?_
    rintro z hs' ⟨rfl, rfl⟩
    (repeat first | (refine And.intro ?_ ?_; first | exact rfl | ((exact fun h => absurd h (by first | decide)); intro yy; clear yy) | (rotate_left; (exact fun h => absurd h (by first | decide)); intro yy; clear yy) | decide | omega) | (with_reducible refine frc_bytesL (by first | omega | decide) ?_) | (with_reducible refine frc_bytesM (by first | omega | decide) ?_))
    by_cases hs : sameE e f
    · have ks : decide (sameE e f) = true := decide_eq_true hs
      have ks' : (!decide (sameE e f)) = false := by rw [ks]; rfl
      (repeat first | (refine And.intro ?_ ?_; first | exact rfl | ((exact fun h => absurd h (by first | decide | (rw [ks']; decide))); intro yy; clear yy) | (rotate_left; (exact fun h => absurd h (by first | decide | (rw [ks']; decide))); intro yy; clear yy) | decide | omega) | (with_reducible refine frc_bytesL (by first | omega | decide) ?_) | (with_reducible refine frc_bytesM (by first | omega | decide) ?_))
      refine ⟨i + 1, [0], ⟨⟨rfl, rfl, rfl⟩, by (repeat first | exact trivial | refine ent1 ?_)⟩, ⟨by omega, fun j e' f' hj he' hf' => ?_⟩, by dsimp only; omega⟩
      by_cases hji : j = i
      · subst hji
        rw [he] at he'; rw [hf] at hf'
        injection he' with he'; injection hf' with hf'
        rw [← he', ← hf']; exact hs
      · exact hall j e' f' (by omega) he' hf'
    · have ks : decide (sameE e f) = false := decide_eq_false hs
      have ks' : (!decide (sameE e f)) = true := by rw [ks]; rfl
      (repeat first | (refine And.intro ?_ ?_; first | exact rfl | ((exact fun h => absurd h (by first | decide | (rw [ks']; decide))); intro yy; clear yy) | (rotate_left; (exact fun h => absurd h (by first | decide | (rw [ks']; decide))); intro yy; clear yy) | decide | omega) | (with_reducible refine frc_bytesL (by first | omega | decide) ?_) | (with_reducible refine frc_bytesM (by first | omega | decide) ?_))
      exact ⟨.a (.c (.bool false)), [[.past W ms]], ⟨[0], ⟨rfl, rfl, rfl⟩, by (repeat first | exact trivial | refine ent1 ?_)⟩, ⟨false, ⟨fun h => Bool.noConfusion h, fun h => absurd (sameE_iff.2 (Option.some.inj (he.symm.trans ((by rw [h]) : l[i]? = k[i]?) |>.trans hf))) hs⟩, rfl⟩, rfl⟩
  · obtain rfl : i = n := by have : ¬ (i : Int) < (n : Int) := of_decide_eq_false hge; omega
    (repeat first | (refine And.intro ?_ ?_; first | exact rfl | ((exact fun h => absurd h (by first | decide)); intro yy; clear yy) | (rotate_left; (exact fun h => absurd h (by first | decide)); intro yy; clear yy) | decide | omega) | (with_reducible refine frc_bytesL (by first | omega | decide) ?_) | (with_reducible refine frc_bytesM (by first | omega | decide) ?_))
    exact ⟨.a (.c (.bool true)), [[.past W ms]], ⟨[0], ⟨rfl, rfl, rfl⟩, by (repeat first | exact trivial | refine ent1 ?_)⟩, ⟨true, ⟨fun _ => same_all (by omega) (fun j e f he hf => sameE_iff.1 (hall j e f (by rw [← hn]; exact (List.getElem?_eq_some_iff.1 he).1) he hf)), fun _ => rfl⟩, rfl⟩, rfl⟩
end Sx
end Go.Proofs.Ytdakmieapdpidaa
end

section
/-
  Numbers with the fewest bytes, both ways. No condition.
-/
namespace Go.Proofs.Ytdakmieapdpidaa
set_option linter.unusedVariables false
namespace Vi
open Sha
theorem nx_putE {n : BitVec 64} (h0 : lenN n ≠ 0) (r : Bs) : nextM (putL n ++ r) 0 = ((n, lenN n, true), r, 0) := by
  have hk := lenN_ok h0
  obtain ⟨h1, h2⟩ := take_wide hk h0 (Nat.le_refl _) r
  have hl : (putL n).length = lenN n := wideL_len _ _
  have hpos : 0 < lenN n := by omega
  have ht : takeM (putL n ++ r) = (n, lenN n, 0) := by
    unfold takeM
    rw [if_neg (by rw [show sizeT (L (putL n ++ r) 0) = lenN n from h1, List.length_append]; omega)]
    rw [show sizeT (L (putL n ++ r) 0) = lenN n from h1, show numT (putL n ++ r) (lenN n - 1) = n from h2]
  unfold nextM
  rw [if_neg (by decide), ht]
  show (if (0 : Int) ≠ 0 then _ else ((n, lenN n, true), (putL n ++ r).drop (lenN n), 0)) = _
  rw [if_neg (by decide), ← hl, List.drop_left]
theorem least_put {n : BitVec 64} (h0 : lenN n ≠ 0) (r : Bs) : leastM (putL n ++ r) 0 = (n, r, 0) := by
  unfold leastM; rw [nx_putE h0]
  show (if true = false then _ else if lenN n ≠ lenN n then _ else _) = _
  rw [if_neg (by decide), if_neg (fun h => h rfl)]
end Vi
end Go.Proofs.Ytdakmieapdpidaa
end

section
/-
  Events as bytes and back: the plain law. No condition.
-/
namespace Go.Proofs.Ytdakmieapdpidaa
set_option linter.unusedVariables false
namespace Ev
open Vi Sha
theorem numsR_put : ∀ (N : List (BitVec 64)) (r : Bs), (∀ n ∈ N, lenN n ≠ 0) → numsR N.length (putAll N ++ r) 0 = (N, r, 0)
  | [], r, _ => rfl
  | n :: N, r, h => by
    show numsR (N.length + 1) ((putL n ++ putAll N) ++ r) 0 = _
    rw [List.append_assoc, numsR, least_put (h n (List.mem_cons_self ..))]
    dsimp only
    rw [numsR_put N r fun m hm => h m (List.mem_cons_of_mem _ hm)]
theorem min20 {m : BitVec 64} (h : ¬ 20#64 < m) : manyL m = (m.toNat : Int) ∧ m.toNat ≤ 20 := by
  unfold manyL
  rw [if_neg h]
  rw [BitVec.lt_def] at h
  have : (20#64).toNat = 20 := rfl
  exact ⟨rfl, by omega⟩
theorem take3_put {e : Ev} (r : Bs) (h1 : e.D.length ≤ 20) (h2 : evData e.k = false → e.D = []) : take3 e.k e.t e.N ((if evData e.k = true then longL e.D else []) ++ r, 0) = (e, r, 0) := by
  cases hd : evData e.k
  · rw [take3_no hd]
    have := h2 hd
    cases e
    dsimp only at this ⊢
    subst this
    rfl
  · rw [if_pos rfl]
    have hl : lenN (BitVec.ofNat 64 e.D.length) ≠ 0 := lenN_of (by omega)
    have hx : leastM (longL e.D ++ r) 0 = (BitVec.ofNat 64 e.D.length, e.D ++ r, 0) := by
      show leastM ((putL _ ++ e.D) ++ r) 0 = _
      rw [List.append_assoc, least_put hl]
    have hm : (BitVec.ofNat 64 e.D.length).toNat = e.D.length := by rw [BitVec.toNat_ofNat]; omega
    have hlt : ¬ 20#64 < BitVec.ofNat 64 e.D.length := by
      rw [BitVec.lt_def, hm]
      have : (20#64).toNat = 20 := rfl
      omega
    refine take3_ok hd hx (D := e.D) (l2 := r) (e2 := 0) ?_
    rw [decide_eq_false hlt]
    show bytesM (e.D ++ r) 0 (manyL _) = _
    rw [(min20 hlt).1, hm]
    unfold bytesM
    rw [if_neg (by decide), if_neg (by rw [List.length_append]; omega)]
    rw [Int.toNat_natCast, List.take_left, List.drop_left]
theorem kind_put {k : BitVec 8} : kindL (BitVec.setWidth 64 k) = k := by
  unfold kindL
  have := k.isLt
  rw [if_neg (by rw [BitVec.lt_def, BitVec.toNat_setWidth]; have : (255#64).toNat = 255 := rfl; omega)]
  apply BitVec.eq_of_toNat_eq
  rw [BitVec.toNat_setWidth, BitVec.toNat_setWidth]
  omega
/-- An event that may be, behind a time. -/
structure GoodE (last : BitVec 64) (e : Ev) : Prop where
  k : evOk e.k = true
  lo : last.toNat ≤ e.t.toNat
  hi : e.t.toNat ≤ 1125899906842624
  N : e.N.length = (evNames e.k).length
  n : ∀ n ∈ e.N, lenN n ≠ 0
  D : e.D.length ≤ 20
  nD : evData e.k = false → e.D = []
theorem take_put_ev {last : BitVec 64} {ev : Ev} (h : GoodE last ev) (r : Bs) : takeE (evB last ev ++ r) 0 last = (ev, r, 0) := by
  have h1 := h.lo
  have h2 := h.hi
  have hsub : (ev.t - last).toNat = ev.t.toNat - last.toNat := by rw [BitVec.toNat_sub]; omega
  have hadd : last + (ev.t - last) = ev.t := by
    apply BitVec.eq_of_toNat_eq
    rw [BitVec.toNat_add, hsub]; omega
  have hl1 : lenN (BitVec.setWidth 64 ev.k) ≠ 0 := lenN_lt (by rw [BitVec.toNat_setWidth]; have := ev.k.isLt; omega)
  have hl2 : lenN (ev.t - last) ≠ 0 := lenN_lt (by omega)
  have hb : evB last ev ++ r = putL (BitVec.setWidth 64 ev.k) ++ (putL (ev.t - last) ++ (putAll ev.N ++ ((if evData ev.k = true then longL ev.D else []) ++ r))) := by
    unfold evB
    show ((putL _ ++ (putL _ ++ [])) ++ putAll ev.N ++ _) ++ r = _
    simp only [List.append_assoc, List.append_nil]
  have hM : (1125899906842624#64).toNat = 1125899906842624 := rfl
  rw [hb]
  unfold takeE
  rw [least_put hl1]
  dsimp only
  rw [if_neg (by decide), kind_put, h.k]
  show take1 ev.k last (_, 0) = _
  rw [take1_eq (least_put hl2 _), hadd, decide_eq_false (by rw [BitVec.lt_def]; omega)]
  show take2 ev.k ev.t (_, 0) = _
  unfold take2
  dsimp only
  rw [← h.N, numsR_put _ _ h.n]
  exact take3_put r h.D h.nD
end Ev
end Go.Proofs.Ytdakmieapdpidaa
end

section
/-
  Lists of events as bytes and back: the plain law. No condition.
-/
namespace Go.Proofs.Ytdakmieapdpidaa
set_option linter.unusedVariables false
namespace Ev
open Vi Sha
def catE : BitVec 64 → List Ev → Bs
  | _, [] => []
  | last, e :: r => evB last e ++ catE e.t r
def GoodL : BitVec 64 → List Ev → Prop
  | _, [] => True
  | last, e :: r => GoodE last e ∧ (e.k = 19#8 → r = []) ∧ GoodL e.t r
theorem GoodE.check {last : BitVec 64} {e : Ev} (h : GoodE last e) : checkM e = 0 ∧ ¬ e.t < last := by
  have hM : (1125899906842624#64).toNat = 1125899906842624 := rfl
  have hT : (4611686018427387903#64).toNat = 4611686018427387903 := rfl
  have h1 := h.hi
  have h2 := h.lo
  have h3 := h.D
  refine ⟨?_, by rw [BitVec.lt_def]; omega⟩
  unfold checkM
  rw [if_neg (by rw [h.k]; decide), if_neg (by rw [BitVec.lt_def]; omega), if_neg (fun hc => hc h.N), if_neg (by omega), if_neg, if_neg]
  · rintro ⟨n, hn, hb⟩
    have h4 := h.n n hn
    have := lenN_spec n
    rw [BitVec.lt_def] at hb
    omega
  · rintro ⟨hc, hd⟩
    rw [h.nD hd] at hc
    exact absurd hc (by decide)
theorem good_of {last : BitVec 64} {e : Ev} (h : checkM e = 0) (ht : ¬ e.t < last) : GoodE last e := by
  have hok := check_ok h
  rw [BitVec.lt_def] at ht
  refine ⟨hok.k, by omega, hok.t, ?_, hok.n, hok.D, fun hd => ?_⟩
  · unfold checkM at h
    rw [if_neg (by rw [hok.k]; decide)] at h
    by_cases h2 : 1125899906842624#64 < e.t
    · rw [if_pos h2] at h; cases h
    rw [if_neg h2] at h
    by_cases h3 : e.N.length ≠ (evNames e.k).length
    · rw [if_pos h3] at h; cases h
    omega
  · unfold checkM at h
    rw [if_neg (by rw [hok.k]; decide)] at h
    by_cases h2 : 1125899906842624#64 < e.t
    · rw [if_pos h2] at h; cases h
    rw [if_neg h2] at h
    by_cases h3 : e.N.length ≠ (evNames e.k).length
    · rw [if_pos h3] at h; cases h
    rw [if_neg h3] at h
    by_cases h4 : 20 < e.D.length
    · rw [if_pos h4] at h; cases h
    rw [if_neg h4] at h
    by_cases h5 : 0 < e.D.length ∧ evData e.k = false
    · rw [if_pos h5] at h; cases h
    exact List.eq_nil_of_length_eq_zero (by
      rcases Nat.eq_zero_or_pos e.D.length with h6 | h6
      · exact h6
      · exact absurd ⟨h6, hd⟩ h5)
theorem encL_good : ∀ (es : List Ev) (last : BitVec 64) (b : Bs), GoodL last es → encL es last b = (b ++ catE last es, 0)
  | [], _, b, _ => by rw [encL, catE, List.append_nil]
  | e :: r, last, b, ⟨h1, h2, h3⟩ => by
    obtain ⟨c1, c2⟩ := h1.check
    rw [encL, if_neg (by omega), if_neg c2, if_neg (fun hc => hc.2 (h2 hc.1)), encL_good r e.t _ h3, catE, List.append_assoc]
theorem encL_back : ∀ (es : List Ev) (last : BitVec 64) (b : Bs) {c : Bs}, encL es last b = (c, 0) → GoodL last es ∧ c = b ++ catE last es
  | [], _, b, c, h => by
    rw [encL] at h
    simp only [Prod.mk.injEq] at h
    exact ⟨trivial, by rw [catE, List.append_nil]; exact h.1.symm⟩
  | e :: r, last, b, c, h => by
    rw [encL] at h
    by_cases h1 : checkM e ≠ 0
    · rw [if_pos h1] at h
      simp only [Prod.mk.injEq] at h
      exact absurd h.2 h1
    rw [if_neg h1] at h
    by_cases h2 : e.t < last
    · rw [if_pos h2] at h
      simp only [Prod.mk.injEq] at h
      exact absurd h.2 (by decide)
    rw [if_neg h2] at h
    by_cases h3 : e.k = 19#8 ∧ r ≠ []
    · rw [if_pos h3] at h
      simp only [Prod.mk.injEq] at h
      exact absurd h.2 (by decide)
    rw [if_neg h3] at h
    obtain ⟨g1, g2⟩ := encL_back r e.t _ h
    refine ⟨⟨good_of (by omega) h2, fun hk => ?_, g1⟩, by rw [g2, catE, List.append_assoc]⟩
    exact Decidable.byContradiction fun hr => h3 ⟨hk, hr⟩
theorem evsR_put : ∀ (es : List Ev) (last : BitVec 64) (r : Bs), GoodL last es → evsR es.length last (catE last es ++ r) 0 = (es, r, 0)
  | [], _, r, _ => rfl
  | e :: es, last, r, ⟨h1, h2, h3⟩ => by
    rw [List.length_cons, catE, List.append_assoc]
    have hf : failIf (decide (e.k = 19#8) && decide (es.length ≠ 0)) 10 (catE e.t es ++ r, 0) = (catE e.t es ++ r, 0) := by
      have : (decide (e.k = 19#8) && decide (es.length ≠ 0)) = false := by
        by_cases hk : e.k = 19#8
        · rw [h2 hk]; simp
        · rw [decide_eq_false hk]; rfl
      rw [this]; rfl
    rw [evsR_step (take_put_ev h1 _) hf, evsR_put es e.t r h3]
abbrev magicE : Bs := [66#8, 73#8, 78#8, 49#8]
theorem enc_back {es : List Ev} {b : Bs} (h : encM es = (b, 0)) : es.length ≤ 2048 ∧ GoodL 0#64 es ∧ b = magicE ++ (putL (BitVec.ofNat 64 es.length) ++ catE 0#64 es) := by
  unfold encM at h
  by_cases h1 : 2048 < es.length
  · rw [if_pos h1] at h
    simp only [Prod.mk.injEq] at h
    exact absurd h.2 (by decide)
  rw [if_neg h1] at h
  obtain ⟨g1, g2⟩ := encL_back es _ _ h
  refine ⟨by omega, g1, ?_⟩
  rw [g2]
  show (magicE ++ (putL _ ++ [])) ++ _ = _
  rw [List.append_nil, List.append_assoc]
theorem enc_of {es : List Ev} (h1 : es.length ≤ 2048) (h2 : GoodL 0#64 es) : encM es = (magicE ++ (putL (BitVec.ofNat 64 es.length) ++ catE 0#64 es), 0) := by
  unfold encM
  rw [if_neg (by omega), encL_good es _ _ h2]
  show ((magicE ++ (putL _ ++ [])) ++ _, (0 : Int)) = _
  rw [List.append_nil, List.append_assoc]
theorem dec_app {es : List Ev} {b : Bs} (h : encM es = (b, 0)) (r : Bs) : decM (b ++ r) = finD (es, r, 0) := by
  obtain ⟨h1, h2, rfl⟩ := enc_back h
  have hn : (BitVec.ofNat 64 es.length).toNat = es.length := by rw [BitVec.toNat_ofNat]; omega
  have hb : bytesM (magicE ++ (putL (BitVec.ofNat 64 es.length) ++ (catE 0#64 es ++ r))) 0 4 = (magicE, putL (BitVec.ofNat 64 es.length) ++ (catE 0#64 es ++ r), 0) := by
    unfold bytesM
    rw [if_neg (by decide), if_neg (by rw [List.length_append]; simp only [List.length_cons, List.length_nil]; omega)]
    rfl
  rw [List.append_assoc, List.append_assoc]
  unfold decM
  rw [hb]
  show dec2 (failIf (decide ((0 : Int) = 0) && decide (U8 magicE ≠ [66, 73, 78, 49])) 4 (_, 0)) = _
  rw [show (decide ((0 : Int) = 0) && decide (U8 magicE ≠ [66, 73, 78, 49])) = false by decide]
  show dec2 (_, 0) = _
  unfold dec2
  dsimp only
  rw [least_put (lenN_of (by omega))]
  dsimp only
  rw [decide_eq_false (by rw [BitVec.lt_def, hn]; have : (2048#64).toNat = 2048 := rfl; omega)]
  show dec3 _ (_, 0) = _
  unfold dec3
  dsimp only
  rw [hn, evsR_put es _ r h2]
theorem dec_enc {es : List Ev} {b : Bs} (h : encM es = (b, 0)) : decM b = (es, 0) := by
  have := dec_app h []
  rw [List.append_nil] at this
  rw [this]; rfl
end Ev
end Go.Proofs.Ytdakmieapdpidaa
end

section
/-
  Rows of events are good. No condition.
-/
namespace Go.Proofs.Ytdakmieapdpidaa
set_option linter.unusedVariables false
namespace Ev
open Vi Sha
theorem mk62_len (x : BitVec 64) : lenN (mk62 x) ≠ 0 := by
  refine lenN_lt ?_
  show (x &&& 4611686018427387903#64).toNat < _
  rw [BitVec.toNat_and]
  have h1 : (4611686018427387903#64).toNat = 4611686018427387903 := rfl
  have h2 : x.toNat &&& (4611686018427387903#64).toNat ≤ (4611686018427387903#64).toNat := Nat.and_le_right
  omega
theorem fit_shape (e : Ev) (k : BitVec 8) : evOk (fitE e k).k = true ∧ (fitE e k).N.length = (evNames (fitE e k).k).length ∧ (∀ n ∈ (fitE e k).N, lenN n ≠ 0) ∧ (fitE e k).D.length ≤ 20 ∧ (evData (fitE e k).k = false → (fitE e k).D = []) := by
  refine ⟨kindE_ok k, ?_, ?_, ?_, ?_⟩
  · show (((padE e.N ((evNames (kindE k)).length - e.N.length)).take (evNames (kindE k)).length).map mk62).length = (evNames (kindE k)).length
    rw [List.length_map, List.length_take, padE_len]
    omega
  · intro n hn
    obtain ⟨x, _, rfl⟩ := List.mem_map.1 (show n ∈ ((padE e.N ((evNames (kindE k)).length - e.N.length)).take (evNames (kindE k)).length).map mk62 from hn)
    exact mk62_len x
  · show (if evData (kindE k) = true then e.D.take 20 else []).length ≤ 20
    split
    · rw [List.length_take]; omega
    · exact Nat.zero_le _
  · intro h
    show (if evData (kindE k) = true then e.D.take 20 else []) = []
    rw [if_neg (by rw [show evData (kindE k) = false from h]; decide)]
theorem fit2_shape (e : Ev) (k : BitVec 8) : (fit2E e k).k ≠ 19#8 ∧ evOk (fit2E e k).k = true ∧ (fit2E e k).N.length = (evNames (fit2E e k).k).length ∧ (∀ n ∈ (fit2E e k).N, lenN n ≠ 0) ∧ (fit2E e k).D.length ≤ 20 ∧ (evData (fit2E e k).k = false → (fit2E e k).D = []) := by
  unfold fit2E
  split
  · exact ⟨show kindE 0#8 ≠ 19#8 by decide, fit_shape _ _⟩
  · rename_i h
    exact ⟨h, fit_shape _ _⟩
theorem at_ok {t : BitVec 64} (e : Ev) (h : t.toNat ≤ 1125899906842624) : t.toNat ≤ (atE t e).toNat ∧ (atE t e).toNat ≤ 1125899906842624 := by
  have hM : (1125899906842624#64).toNat = 1125899906842624 := rfl
  have h1 : (e.t % 100000#64).toNat < 100000 := by
    rw [BitVec.toNat_umod]
    exact Nat.mod_lt _ (by decide)
  have h2 : (t + e.t % 100000#64).toNat = t.toNat + (e.t % 100000#64).toNat := by rw [BitVec.toNat_add]; omega
  unfold atE
  split
  · rw [hM]; omega
  · rename_i hc
    rw [BitVec.lt_def, h2] at hc
    rw [h2]
    omega
theorem row_good (ks : Bs) : ∀ (es : List Ev) (i : Nat) (t : BitVec 64), t.toNat ≤ 1125899906842624 → GoodL t (rowE ks es i t) ∧ ∀ e ∈ rowE ks es i t, e.k ≠ 19#8
  | [], _, _, _ => ⟨trivial, fun e he => by cases he⟩
  | e :: r, i, t, ht => by
    obtain ⟨a1, a2⟩ := at_ok (fit2E e (keyE ks i)) ht
    obtain ⟨s0, s1, s2, s3, s4, s5⟩ := fit2_shape e (keyE ks i)
    obtain ⟨g1, g2⟩ := row_good ks r (i + 1) (atE t (fit2E e (keyE ks i))) a2
    rw [rowE]
    refine ⟨⟨⟨s1, a1, a2, s2, s3, s4, s5⟩, fun h => absurd h s0, g1⟩, fun x hx => ?_⟩
    rcases List.mem_cons.1 hx with rfl | hx
    · exact s0
    · exact g2 x hx
/-- A last event that says that there were more. -/
theorem GoodL.snoc : ∀ {es : List Ev} {last : BitVec 64} {x : Ev}, GoodL last es → (∀ e ∈ es, e.k ≠ 19#8) → GoodE (match es.getLast? with | some e => e.t | none => last) x → GoodL last (es ++ [x])
  | [], last, x, _, _, h => ⟨h, fun _ => rfl, trivial⟩
  | e :: r, last, x, ⟨h1, h2, h3⟩, hk, hx => by
    refine ⟨h1, fun h => absurd h (hk e (List.mem_cons_self ..)), GoodL.snoc h3 (fun y hy => hk y (List.mem_cons_of_mem _ hy)) ?_⟩
    cases r with
    | nil => exact hx
    | cons y r =>
      rw [List.getLast?_cons_cons] at hx
      cases hl : (y :: r).getLast? with
      | none => simp at hl
      | some z => rw [hl] at hx; exact hx
theorem good_last : ∀ {es : List Ev} {last : BitVec 64} {x : Ev}, GoodL last es → es.getLast? = some x → x.t.toNat ≤ 1125899906842624
  | [], _, x, _, h => by simp at h
  | [e], _, x, ⟨h1, _, _⟩, h => by simp at h; subst h; exact h1.hi
  | e :: y :: r, _, x, ⟨_, _, h3⟩, h => by
    rw [List.getLast?_cons_cons] at h
    exact good_last h3 h
end Ev
end Go.Proofs.Ytdakmieapdpidaa
end

section
/-
  The document's numbers of one, two, four or eight bytes. No condition.
-/
namespace Go.Proofs.Ytdakmieapdpidaa
set_option linter.unusedVariables false
namespace Vi
open Sha
theorem shr_div (n : BitVec 64) (j : Nat) : (n >>> (8 * j)) / 256#64 = n >>> (8 * (j + 1)) := by
  apply BitVec.eq_of_toNat_eq
  rw [BitVec.toNat_udiv, BitVec.toNat_ushiftRight, BitVec.toNat_ushiftRight, Nat.shiftRight_eq_div_pow, Nat.shiftRight_eq_div_pow, Nat.mul_add, Nat.pow_add, ← Nat.div_div_eq_div_mul]
  rfl
theorem shr_mod (n : BitVec 64) (j : Nat) : ((n >>> (8 * j)) % 256#64).setWidth 8 = byteN n j := by
  apply BitVec.eq_of_toNat_eq
  rw [byteN_toNat, BitVec.toNat_setWidth, BitVec.toNat_umod, BitVec.toNat_ushiftRight, Nat.shiftRight_eq_div_pow, Nat.pow_mul]
  show n.toNat / 256 ^ j % 256 % 256 = _
  omega
end Vi
namespace Sx
open Sha Vi

theorem fn_qlen (n : BitVec 64) : Fn Try.prog tds 46 [] [.c (.w64 n)] (fun _ => True) (fun x hs => x = .a (.c (.int .i64 (lenN n : Nat))) ∧ hs = []) := by
  refine fn_of_body tds_ok follows_ Try.func46 rfl (t := .a (.c (.w64 n)) :: anys (Try.f46.ntmps - 1)) rfl (fun w r0 hr _ => ?_)
  obtain rfl : r0 = [] := List.eq_nil_of_length_eq_zero hr
  have hs := lenN_spec n
  refine ⟨fun h => ?_, fun h0 => ?_⟩
  · have h : 4611686018427387903#64 < n := of_decide_eq_true h
    rw [BitVec.lt_def] at h
    have e : lenN n = 0 := by simp at h; omega
    rw [e]
    exact ⟨.a (.c (.int .i64 0)), [], ⟨[], ⟨rfl, rfl, rfl⟩, rfl, trivial⟩, rfl, rfl⟩
  have h0 : ¬ 4611686018427387903#64 < n := of_decide_eq_false h0
  rw [BitVec.lt_def] at h0
  simp at h0
  refine ⟨fun h => ?_, fun h1 => ?_⟩
  · have h : n < 64#64 := of_decide_eq_true h
    rw [BitVec.lt_def] at h
    have e : lenN n = 1 := by simp at h; omega
    rw [e]
    exact ⟨.a (.c (.int .i64 1)), [], ⟨[], ⟨rfl, rfl, rfl⟩, rfl, trivial⟩, rfl, rfl⟩
  have h1 : ¬ n < 64#64 := of_decide_eq_false h1
  rw [BitVec.lt_def] at h1
  simp at h1
  refine ⟨fun h => ?_, fun h2 => ?_⟩
  · have h : n < 16384#64 := of_decide_eq_true h
    rw [BitVec.lt_def] at h
    have e : lenN n = 2 := by simp at h; omega
    rw [e]
    exact ⟨.a (.c (.int .i64 2)), [], ⟨[], ⟨rfl, rfl, rfl⟩, rfl, trivial⟩, rfl, rfl⟩
  have h2 : ¬ n < 16384#64 := of_decide_eq_false h2
  rw [BitVec.lt_def] at h2
  simp at h2
  refine ⟨fun h => ?_, fun h3 => ?_⟩
  · have h : n < 1073741824#64 := of_decide_eq_true h
    rw [BitVec.lt_def] at h
    have e : lenN n = 4 := by simp at h; omega
    rw [e]
    exact ⟨.a (.c (.int .i64 4)), [], ⟨[], ⟨rfl, rfl, rfl⟩, rfl, trivial⟩, rfl, rfl⟩
  have h3 : ¬ n < 1073741824#64 := of_decide_eq_false h3
  rw [BitVec.lt_def] at h3
  simp at h3
  have e : lenN n = 8 := by omega
  rw [e]
  exact ⟨.a (.c (.int .i64 8)), [], ⟨[], ⟨rfl, rfl, rfl⟩, rfl, trivial⟩, rfl, rfl⟩
theorem fn_qtop (k : Nat) (hk : okSz k) : Fn Try.prog tds 52 [] [.c (.int .i64 (k : Nat))] (fun _ => True) (fun x hs => x = .a (.c (.int .i64 ((markB k).toNat : Nat))) ∧ hs = []) := by
  refine fn_of_body tds_ok follows_ Try.func52 rfl (t := .a (.c (.int .i64 (k : Nat))) :: anys (Try.f52.ntmps - 1)) rfl (fun w r0 hr _ => ?_)
  obtain rfl : r0 = [] := List.eq_nil_of_length_eq_zero hr
  rcases hk with rfl | rfl | rfl | rfl
  · refine ⟨fun h => ?_, fun h => absurd h (by decide)⟩
    exact ⟨.a (.c (.int .i64 0)), [], ⟨[], ⟨rfl, rfl, rfl⟩, rfl, trivial⟩, rfl, rfl⟩
  · refine ⟨fun h => absurd h (by decide), fun _ => ⟨fun h => ?_, fun h => absurd h (by decide)⟩⟩
    exact ⟨.a (.c (.int .i64 64)), [], ⟨[], ⟨rfl, rfl, rfl⟩, rfl, trivial⟩, rfl, rfl⟩
  · refine ⟨fun h => absurd h (by decide), fun _ => ⟨fun h => absurd h (by decide), fun _ => ⟨fun h => ?_, fun h => absurd h (by decide)⟩⟩⟩
    exact ⟨.a (.c (.int .i64 128)), [], ⟨[], ⟨rfl, rfl, rfl⟩, rfl, trivial⟩, rfl, rfl⟩
  · refine ⟨fun h => absurd h (by decide), fun _ => ⟨fun h => absurd h (by decide), fun _ => ⟨fun h => absurd h (by decide), fun _ => ⟨fun h => ?_, fun h => absurd h (by decide)⟩⟩⟩⟩
    exact ⟨.a (.c (.int .i64 192)), [], ⟨[], ⟨rfl, rfl, rfl⟩, rfl, trivial⟩, rfl, rfl⟩
theorem mark_add' {n : BitVec 64} {k : Nat} (hk : okSz k) (h0 : lenN n ≠ 0) (h1 : lenN n ≤ k) : byteN n (k - 1) + markB k = byteN n (k - 1) ||| markB k := by
  have := mark_add _ (head_lt hk h0 h1).1
  rcases hk with rfl | rfl | rfl | rfl
  · exact this.1.symm
  · exact this.2.1.symm
  · exact this.2.2.1.symm
  · exact this.2.2.2.symm
set_option maxRecDepth 20000 in
theorem fn_qwide (n : BitVec 64) (k : Nat) (hk : okSz k) (h0 : lenN n ≠ 0) (h1 : lenN n ≤ k) : Fn Try.prog tds 45 [] [.c (.w64 n), .c (.int .i64 (k : Nat))] (fun _ => True)
    (fun y hs => ∃ c', k ≤ c' ∧ y = .a (.c (.sl 0 0 0 (wideL n k).length c')) ∧ hs = [lsC (wideL n k) c']) := by
  refine fn_of_body tds_ok follows_ Try.func45 rfl (t := [.a (.c (.w64 (n))), .a (.c (.int .i64 ((k : Nat)))), .any, .any, .any, .any, .any, .any, .any, .any, .any, .any, .any, .any, .any, .any, .any, .any, .any, .any, .any, .any, .any, .any, .any, .any, .any, .any, .any, .any, .any, .any, .any, .any, .any, .any, .any, .any, .any, .any, .any, .any, .any, .any, .any]) rfl (fun w r0 hr _ => ?_)
  obtain rfl : r0 = [] := List.eq_nil_of_length_eq_zero hr
  have hk8 : 1 ≤ k ∧ k ≤ 8 := by rcases hk with rfl | rfl | rfl | rfl <;> omega
  (repeat first | refine And.intro (by omega) ?_ | refine And.intro (by decide) ?_ | (with_reducible refine frc_parts (by first | omega | decide) ?_) | (with_reducible refine frc_bytesL (by first | omega | decide) ?_) | refine And.intro rfl ?_)
  refine call_same (fn_qlen n) [] rfl (by (repeat first | exact trivial | refine ent1 ?_)) trivial (fun _ _ => trivial) ?_
  rintro x hs ⟨rfl, rfl⟩
  have e1 : decide ((lenN n : Int) = 0) = false := decide_eq_false (by omega)
  (repeat first | refine And.intro (by omega) ?_ | refine And.intro (by decide) ?_ | refine And.intro rfl ?_ | refine And.intro (fun _ => ?_) (fun h => Bool.noConfusion h) | refine And.intro (fun h => Bool.noConfusion h) (fun _ => ?_) | refine And.intro (fun _ => ?_) (fun h => absurd h (by rw [e1]; decide)) | refine And.intro (fun h => absurd h (by rw [e1]; decide)) (fun _ => ?_))
  refine call_same (fn_qlen n) [] rfl (by (repeat first | exact trivial | refine ent1 ?_)) trivial (fun _ _ => trivial) ?_
  rintro x hs ⟨rfl, rfl⟩
  have e2 : decide ((k : Int) < (lenN n : Int)) = false := decide_eq_false (by omega)
  (repeat first | refine And.intro (by omega) ?_ | refine And.intro (by decide) ?_ | refine And.intro rfl ?_ | refine And.intro (fun _ => ?_) (fun h => Bool.noConfusion h) | refine And.intro (fun h => Bool.noConfusion h) (fun _ => ?_) | refine And.intro (fun _ => ?_) (fun h => absurd h (by rw [e1]; decide)) | refine And.intro (fun h => absurd h (by rw [e1]; decide)) (fun _ => ?_) | refine And.intro (fun _ => ?_) (fun h => absurd h (by rw [e2]; decide)) | refine And.intro (fun h => absurd h (by rw [e2]; decide)) (fun _ => ?_))
  refine call_same (fn_qtop k hk) [] rfl (by (repeat first | exact trivial | refine ent1 ?_)) trivial (fun _ _ => trivial) ?_
  rintro x hs ⟨rfl, rfl⟩
  have e3 : decide (((markB k).toNat : Int) < 0) = false := decide_eq_false (by omega)
  (repeat first | refine And.intro (by omega) ?_ | refine And.intro (by decide) ?_ | refine And.intro rfl ?_ | refine And.intro (fun _ => ?_) (fun h => Bool.noConfusion h) | refine And.intro (fun h => Bool.noConfusion h) (fun _ => ?_) | refine And.intro (fun _ => ?_) (fun h => absurd h (by rw [e1]; decide)) | refine And.intro (fun h => absurd h (by rw [e1]; decide)) (fun _ => ?_) | refine And.intro (fun _ => ?_) (fun h => absurd h (by rw [e2]; decide)) | refine And.intro (fun h => absurd h (by rw [e2]; decide)) (fun _ => ?_) | refine And.intro (fun _ => ?_) (fun h => absurd h (by rw [e3]; decide)) | refine And.intro (fun h => absurd h (by rw [e3]; decide)) (fun _ => ?_))
  refine .inl ⟨Nat, fun j => ⟨[.a (.c (.w64 (n >>> (8 * j)))), .a (.c (.int .i64 ((k : Nat)))), .any, .any, .any, .a (.c (.p 0 0 0)), .a (.c (.int .i64 ((k : Int) - 1 - (j : Int)))), .any, .any, .any, .any, .any, .any, .any, .any, .any, .any, .any, .any, .any, .any, .any, .any, .any, .any, .any, .any, .any, .any, .any, .any, .any, .any, .any, .any, .any, .any, .any, .any, .any, .any, .any, .any, .any, .any], [[.row 8 fun i => .w8 (if k ≤ i + j ∧ i < k then byteN n (k - 1 - i) else 0#8)]]⟩, fun j => j ≤ k, fun j => 9 - j, ⟨0, [0], ⟨⟨rfl, rfl, rfl⟩, ?_⟩, by omega⟩, fun j hj => ?_⟩
  · (repeat first | exact trivial | refine ent1 ?_)
    refine ⟨fun i hi => ⟨(if_neg (by omega)).symm, trivial⟩, ?_⟩
    (repeat first | exact trivial | refine ent1 ?_)
  refine ⟨fun h => ?_, fun h => ?_⟩
  · have hlt : j < k := by have : (0 : Int) ≤ (k : Int) - 1 - j := of_decide_eq_true h; omega
    (repeat first | refine And.intro (by omega) ?_ | refine And.intro (by decide) ?_ | (with_reducible refine frc_parts (by first | omega | decide) ?_) | (with_reducible refine frc_bytesL (by first | omega | decide) ?_) | refine And.intro rfl ?_)
    refine ⟨j + 1, [0], ⟨⟨rfl, rfl, rfl⟩, ?_⟩, by omega, by dsimp only; omega⟩
    refine ⟨shr_div n j, ?_⟩
    (repeat first | exact trivial | refine ent1 ?_)
    refine ⟨fun i hi => eqC_w8 ?_, ?_⟩
    · have ei : ((k : Int) - 1 - (j : Int)).toNat + 0 = k - 1 - j := by omega
      rw [ei]
      refine upd_w8 (g := fun i => .w8 (if k ≤ i + (j + 1) ∧ i < k then byteN n (k - 1 - i) else 0#8)) ?_ (fun q hq => ?_) i
      · show SC.w8 _ = SC.w8 _
        rw [if_pos (by omega), shr_mod, show k - 1 - (k - 1 - j) = j by omega]
      · show SC.w8 _ = SC.w8 _
        have : (k ≤ q + j ∧ q < k) ↔ (k ≤ q + (j + 1) ∧ q < k) := by omega
        simp only [this]
    (repeat first | exact trivial | refine ent1 ?_)
  · obtain rfl : j = k := by have : ¬ (0 : Int) ≤ (k : Int) - 1 - j := of_decide_eq_false h; have hj : j ≤ k := hj; omega
    refine ⟨none, [], [(0, true), (1, true), (2, true), (3, false), (4, true), (5, true), (6, true)], [7], by kernel_rfl, ?_⟩
    (repeat first | refine And.intro (by omega) ?_ | refine And.intro (by decide) ?_ | (with_reducible refine frc_parts (by first | omega | decide) ?_) | (with_reducible refine frc_bytesL (by first | omega | decide) ?_) | refine And.intro rfl ?_)
    refine call_same (fn_qtop j hk) [] rfl (by (repeat first | exact trivial | refine ent1 ?_)) trivial (fun _ _ => trivial) ?_
    rintro x hs ⟨rfl, rfl⟩
    (repeat first | refine And.intro (by omega) ?_ | refine And.intro (by decide) ?_ | (with_reducible refine frc_parts (by first | omega | decide) ?_) | (with_reducible refine frc_bytesL (by first | omega | decide) ?_) | refine And.intro rfl ?_)
    refine frcN_of (m := 0) rfl ?_
    refine frcN_of (m := j) rfl ?_
    refine frcN_of (m := 0) rfl ?_
    refine frcN_of (m := j) rfl ?_
    refine frcN_of (m := 8) rfl ?_
    refine ⟨by show 0 + j ≤ 8; omega, ?_⟩
    refine ⟨⟨Nat.le_refl _, Nat.le_refl _, by show (0 + j) * 1 ≤ 140737488355328; omega⟩, fun c' hc' => ?_⟩
    refine ⟨.a (.c (.sl 0 0 0 (wideL n j).length c')), _, ⟨[2], ⟨rfl, rfl, rfl⟩, ?_⟩, c', by omega, rfl, rfl⟩
    refine ⟨rfl, by simp, rfl, ?_⟩
    refine ⟨rfl, fun i hi => eqC_bytes (fun i hi => ?_) i, trivial⟩
    have hi : i < j := by simpa using hi
    refine app_row (l := []) (m := wideL n j) (f := nthC []) rfl (wideL_len _ _) (fun i hi => absurd hi (by simp)) (fun i hi => ?_) i (by simpa using hi)
    have ht : BitVec.ofInt 8 ((markB j).toNat : Int) = markB j := by rw [BitVec.ofInt_natCast, BitVec.ofNat_toNat, BitVec.setWidth_eq]
    show upd _ 0 _ (i + 0) = _
    rw [L_wide hi]
    unfold upd
    by_cases hz : i = 0
    · rw [if_pos (show i + 0 = 0 from hz), if_pos hz]
      show SC.w8 ((if j ≤ 0 + j ∧ 0 < j then byteN n (j - 1 - 0) else 0#8) + BitVec.ofInt 8 ((markB j).toNat : Int)) = _
      rw [ht, if_pos (by omega), Nat.sub_zero, mark_add' hk h0 h1]
    · rw [if_neg (show ¬ i + 0 = 0 from hz), if_neg hz]
      show SC.w8 (if j ≤ i + j ∧ i < j then byteN n (j - 1 - i) else 0#8) = _
      rw [if_pos (by omega)]
set_option maxRecDepth 20000 in
theorem fn_qput (n : BitVec 64) (h0 : lenN n ≠ 0) : Fn Try.prog tds 35 [] [.c (.w64 n)] (fun _ => True)
    (fun y hs => ∃ c', lenN n ≤ c' ∧ y = .a (.c (.sl 0 0 0 (putL n).length c')) ∧ hs = [lsC (putL n) c']) := by
  refine fn_of_body tds_ok follows_ Try.func35 rfl (t := .a (.c (.w64 n)) :: anys (Try.f35.ntmps - 1)) rfl (fun w r0 hr _ => ?_)
  obtain rfl : r0 = [] := List.eq_nil_of_length_eq_zero hr
  (repeat first | refine And.intro (by omega) ?_ | refine And.intro (by decide) ?_ | (with_reducible refine frc_parts (by first | omega | decide) ?_) | (with_reducible refine frc_bytesL (by first | omega | decide) ?_) | refine And.intro rfl ?_)
  refine call_same (fn_qlen n) [] rfl (by (repeat first | exact trivial | refine ent1 ?_)) trivial (fun _ _ => trivial) ?_
  rintro x hs ⟨rfl, rfl⟩
  (repeat first | refine And.intro (by omega) ?_ | refine And.intro (by decide) ?_ | (with_reducible refine frc_parts (by first | omega | decide) ?_) | (with_reducible refine frc_bytesL (by first | omega | decide) ?_) | refine And.intro rfl ?_)
  refine call_same (fn_qwide n (lenN n) (lenN_ok h0) h0 (Nat.le_refl _)) [] rfl (by (repeat first | exact trivial | refine ent1 ?_)) trivial (fun _ _ => trivial) ?_
  rintro x hs ⟨c', hc', rfl, rfl⟩
  refine ⟨.a (.c (.sl 0 0 0 (putL n).length c')), _, ⟨[0], ⟨rfl, rfl, rfl⟩, ?_⟩, c', hc', rfl, rfl⟩
  (repeat first | exact trivial | refine ent1 ?_)
end Sx
end Go.Proofs.Ytdakmieapdpidaa
end

section
/-
  Events' bytes as they are meant: binnaclelaw25.encoded. No condition.
-/
namespace Go.Proofs.Ytdakmieapdpidaa
set_option linter.unusedVariables false
namespace Ev
open Vi Sha
def encB (es : List Ev) : Bs := magicE ++ (putL (BitVec.ofNat 64 es.length) ++ catE 0#64 es)
theorem evB_len2 {last : BitVec 64} {e : Ev} (h : GoodE last e) : (evB last e).length ≤ 140 := evB_len (check_ok h.check.1)
theorem goodL_drop : ∀ {es : List Ev} {last : BitVec 64} {e : Ev} {r : List Ev}, GoodL last es → es = e :: r → GoodE last e ∧ GoodL e.t r
  | _, last, e, r, h, rfl => ⟨h.1, h.2.2⟩
end Ev
namespace Sx
open Go.RowKit Sha Vi Ev

set_option maxRecDepth 20000 in
set_option maxHeartbeats 16000000 in
theorem fn_bencoded {W : World} {ms : List Nat} {a : Option Addr} {n c : Nat} {es : List Ev} (h : EvsAt W ms a n c es) (hg : GoodL 0#64 es) (hn : n ≤ 2048) : FnR Try.prog tds 14 1 [[.past W ms]] [.c (.slc a n c)] (fun _ => True)
    (fun y hs => ∃ c', (encB es).length ≤ c' ∧ y = .a (.c (.sl 1 0 0 (encB es).length c')) ∧ hs = [[.past W ms], lsC (encB es) c']) := by
  have hlen := h.len
  have hcap := h.cap
  refine fn_of_body tds_ok follows_ Try.func14 rfl (t := .a (.c (.slc a n c)) :: anys (Try.f14.ntmps - 1)) rfl (fun w r0 hr0 _ => ?_)
  obtain ⟨x0, rfl⟩ := List.length_eq_one_iff.1 hr0
  have hn0 : lenN (BitVec.ofInt 64 (n : Int)) ≠ 0 := by rw [BitVec.ofInt_natCast]; exact lenN_of (by omega)
  have hl8 := lenN_le (BitVec.ofInt 64 (n : Int))
  have hpl := putL_len (BitVec.ofInt 64 (n : Int))
  (repeat first | (refine And.intro ?_ ?_; first | exact rfl | ((exact fun h => absurd h (by first | decide)); intro yy; clear yy) | (rotate_left; (exact fun h => absurd h (by first | decide)); intro yy; clear yy) | decide | omega) | (with_reducible refine frc_bytesL (by first | omega | decide) ?_) | (with_reducible refine frc_bytesM (by first | omega | decide) ?_))
  refine call_same (fn_qput (BitVec.ofInt 64 (n : Int)) hn0) [] rfl (by (repeat first | exact trivial | refine ent1 ?_)) trivial (fun _ _ => trivial) ?_
  rintro x hs' ⟨c1, hc1, rfl, rfl⟩
  (repeat first | (refine And.intro ?_ ?_; first | exact rfl | ((exact fun h => absurd h (by first | decide)); intro yy; clear yy) | (rotate_left; (exact fun h => absurd h (by first | decide)); intro yy; clear yy) | decide | omega) | (with_reducible refine frc_bytesL (by first | omega | decide) ?_) | (with_reducible refine frc_bytesM (by first | omega | decide) ?_))
  refine ⟨by show 0 + (putL (BitVec.ofInt 64 (n : Int))).length ≤ c1; omega, ?_⟩
  refine ⟨⟨by decide, by decide, by show (4 + (putL (BitVec.ofInt 64 (n : Int))).length) * 1 ≤ 140737488355328; omega⟩, fun c2 hc2 => ?_⟩
  (repeat first | (refine And.intro ?_ ?_; first | exact rfl | ((exact fun h => absurd h (by first | decide)); intro yy; clear yy) | (rotate_left; (exact fun h => absurd h (by first | decide)); intro yy; clear yy) | decide | omega) | (with_reducible refine frc_bytesL (by first | omega | decide) ?_) | (with_reducible refine frc_bytesM (by first | omega | decide) ?_))
  obtain ⟨B0, hB0⟩ : ∃ B0, B0 = magicE ++ putL (BitVec.ofInt 64 (n : Int)) := ⟨_, rfl⟩
  have hB0l : B0.length = 4 + (putL (BitVec.ofInt 64 (n : Int))).length := by rw [hB0, List.length_append]; rfl
  have hE0 : B0 ++ catE 0#64 es = encB es := by rw [hB0, BitVec.ofInt_natCast, List.append_assoc]; unfold encB; rw [hlen]
  refine .inl ⟨Nat × BitVec 64 × Bs × Nat, fun (i, last, B, cB) => ⟨[.a (.c (.slc a n c)), .any, .any, .a (.c (.sl 1 0 0 B.length cB)), .a (.c (.w64 (last))), .any, .any, .any, .any, .any, .any, .any, .any, .any, .any, .any, .any, .any, .a (.c (.slc a n c)), .a (.c (.int .i64 (↑n))), .a (.c (.int .i64 (↑i))), .any, .any, .any, .any, .any, .any, .any, .any, .any, .any, .any, .any, .any, .any, .any, .any, .any, .any, .any, .any, .any, .any, .any, .any, .any, .any, .any, .any, .any, .any, .any, .any, .any, .any, .any, .any, .any, .any, .any, .any, .any, .any, .any, .any, .any, .any, .any, .any], [[.past W ms], lsC B cB]⟩,
    fun (i, last, B, cB) => (i ≤ n ∧ B.length ≤ 12 + 140 * i ∧ B.length ≤ cB) ∧ GoodL last (es.drop i) ∧ B ++ catE last (es.drop i) = encB es, fun (i, _, _, _) => n - i, ⟨(0, 0#64, B0, c2), [0, 3], ⟨⟨rfl, rfl, rfl⟩, ?_⟩, ⟨Nat.zero_le _, by omega, by omega⟩, hg, hE0⟩, fun (i, last, B, cB) hp => ?_⟩
  · (repeat first | exact trivial | refine ent1 ?_)
    refine ⟨fun j hj => eqC_bytes (fun i hi => ?_) j, by (repeat first | exact trivial | refine ent1 ?_)⟩
    rw [hB0]
    refine app_row (l := magicE) (m := putL (BitVec.ofInt 64 (n : Int))) (n := 4) rfl rfl (fun i hi => magic_row i hi) (fun i hi => ?_) i (by rw [hB0l] at hi; exact hi)
    show SC.mp _ (bytesF _ _ i) = _
    rw [bytesF_lt hi]; rfl
  obtain ⟨⟨g1, g2, g3⟩, hgl, hE⟩ := hp
  refine And.intro (fun hlt => ?_) (fun hge => ?_)
  · have hlt : i < n := by have : (i : Int) < (n : Int) := of_decide_eq_true hlt; omega
    obtain ⟨e, he⟩ : ∃ e, es[i]? = some e := ⟨_, List.getElem?_eq_getElem (by omega)⟩
    have hd : es.drop i = e :: es.drop (i + 1) := by
      have := List.drop_eq_getElem_cons (l := es) (i := i) (by omega)
      rw [List.getElem?_eq_getElem (by omega)] at he
      injection he with he
      rw [he] at this
      exact this
    obtain ⟨hge, hgr⟩ := goodL_drop hgl hd
    rw [hd, catE] at hE
    cases ha : a with
    | none => have := h.nil ha; have := h.le; omega
    | some A =>
    obtain ⟨x, him, hx⟩ := h.elt A ha i e he
    have hnN := hx.nN
    have hnD := hx.nD
    have hxN := hx.N
    have hxD := hx.D
    obtain ⟨aN, nN, cN, aD, nD, cD⟩ := x
    dsimp only at hnN hnD hxN hxD
    subst hnN; subst hnD
    subst ha
    have hlo := hge.lo
    have hhi := hge.hi
    have hk0 : lenN (BitVec.setWidth 64 e.k) ≠ 0 := lenN_lt (by rw [BitVec.toNat_setWidth]; have := e.k.isLt; omega)
    have ht0 : lenN (e.t - last) ≠ 0 := lenN_lt (by rw [BitVec.toNat_sub]; omega)
    have hk8 := lenN_le (BitVec.setWidth 64 e.k)
    have ht8 := lenN_le (e.t - last)
    have hkl := putL_len (BitVec.setWidth 64 e.k)
    have htl := putL_len (e.t - last)
    refine And.intro (show (0 : Int) ≤ (i : Int) ∧ (i : Int) < (n : Int) by omega) ?_
    refine ⟨evS e ⟨aN, e.N.length, cN, aD, e.D.length, cD⟩, ⟨RawAt.past (i := 0) rfl him, rfl⟩, ?_⟩
    (repeat first | (refine And.intro ?_ ?_; first | exact rfl | ((exact fun h => absurd h (by first | decide)); intro yy; clear yy) | (rotate_left; (exact fun h => absurd h (by first | decide)); intro yy; clear yy) | decide | omega) | (with_reducible refine frc_bytesL (by first | omega | decide) ?_) | (with_reducible refine frc_bytesM (by first | omega | decide) ?_))
    refine ⟨some [2], [], [(0, true), (1, true), (2, true), (3, true), (6, true), (7, true), (8, true), (9, true), (4, false), (5, false), (10, false), (11, false)], [12], by kernel_rfl, ?_⟩
    (repeat first | (refine And.intro ?_ ?_; first | exact rfl | ((exact fun h => absurd h (by first | decide)); intro yy; clear yy) | (rotate_left; (exact fun h => absurd h (by first | decide)); intro yy; clear yy) | decide | omega) | (with_reducible refine frc_bytesL (by first | omega | decide) ?_) | (with_reducible refine frc_bytesM (by first | omega | decide) ?_))
    refine call_same (fn_qput (BitVec.setWidth 64 e.k) hk0) [] rfl (by (repeat first | exact trivial | refine ent1 ?_)) trivial (fun _ _ => trivial) ?_
    rintro x hs' ⟨c3, hc3, rfl, rfl⟩
    (repeat first | (refine And.intro ?_ ?_; first | exact rfl | ((exact fun h => absurd h (by first | decide)); intro yy; clear yy) | (rotate_left; (exact fun h => absurd h (by first | decide)); intro yy; clear yy) | decide | omega) | (with_reducible refine frc_bytesL (by first | omega | decide) ?_) | (with_reducible refine frc_bytesM (by first | omega | decide) ?_))
    refine ⟨by show 0 + (putL (BitVec.setWidth 64 e.k)).length ≤ c3; omega, ?_⟩
    refine ⟨⟨g3, by show 0 + cB ≤ cB; omega, by show (B.length + (putL (BitVec.setWidth 64 e.k)).length) * 1 ≤ 140737488355328; omega⟩, fun c4 hc4 => ?_⟩
    (repeat first | (refine And.intro ?_ ?_; first | exact rfl | ((exact fun h => absurd h (by first | decide)); intro yy; clear yy) | (rotate_left; (exact fun h => absurd h (by first | decide)); intro yy; clear yy) | decide | omega) | (with_reducible refine frc_bytesL (by first | omega | decide) ?_) | (with_reducible refine frc_bytesM (by first | omega | decide) ?_))
    refine call_same (fn_qput (e.t - last) ht0) [] rfl (by (repeat first | exact trivial | refine ent1 ?_)) trivial (fun _ _ => trivial) ?_
    rintro x hs' ⟨c5, hc5, rfl, rfl⟩
    (repeat first | (refine And.intro ?_ ?_; first | exact rfl | ((exact fun h => absurd h (by first | decide)); intro yy; clear yy) | (rotate_left; (exact fun h => absurd h (by first | decide)); intro yy; clear yy) | decide | omega) | (with_reducible refine frc_bytesL (by first | omega | decide) ?_) | (with_reducible refine frc_bytesM (by first | omega | decide) ?_))
    refine ⟨by show 0 + (putL (e.t - last)).length ≤ c5; omega, ?_⟩
    refine ⟨⟨hc4, by show 0 + c4 ≤ c4; omega, by show (B.length + (putL (BitVec.setWidth 64 e.k)).length + (putL (e.t - last)).length) * 1 ≤ 140737488355328; omega⟩, fun c6 hc6 => ?_⟩
    (repeat first | (refine And.intro ?_ ?_; first | exact rfl | ((exact fun h => absurd h (by first | decide)); intro yy; clear yy) | (rotate_left; (exact fun h => absurd h (by first | decide)); intro yy; clear yy) | decide | omega) | (with_reducible refine frc_bytesL (by first | omega | decide) ?_) | (with_reducible refine frc_bytesM (by first | omega | decide) ?_))
    have hbl := evB_len2 hge
    obtain ⟨B1, hB1⟩ : ∃ B1, B1 = (B ++ putL (BitVec.setWidth 64 e.k)) ++ putL (e.t - last) := ⟨_, rfl⟩
    have hB1l : B1.length = B.length + (putL (BitVec.setWidth 64 e.k)).length + (putL (e.t - last)).length := by rw [hB1, List.length_append, List.length_append]
    have hBB : B ++ evB last e = B1 ++ putAll e.N ++ (if evData e.k = true then longL e.D else []) := by
      unfold evB
      rw [hB1]
      show B ++ ((putL _ ++ (putL _ ++ [])) ++ putAll e.N ++ _) = _
      simp only [List.append_assoc, List.append_nil]
    have hN8 : e.N.length ≤ 8 := by rw [hge.N]; exact many_le e.k
    have hD20 := hge.D
    have hBl : (B ++ evB last e).length ≤ 12 + 140 * (i + 1) := by rw [List.length_append]; omega
    refine .inl ⟨Nat × Bs × Nat, fun (j, Bj, cj) => ⟨[.a (.c (.slc (some A) n c)), .any, .any, .a (.c (.sl 1 0 0 Bj.length cj)), .a (.c (.w64 (last))), .any, .a (.c (.p 2 0 0)), .any, .any, .any, .any, .any, .any, .any, .any, .any, .any, .any, .a (.c (.slc (some A) n c)), .a (.c (.int .i64 (↑n))), .a (.c (.int .i64 (↑i))), .any, .any, .any, .any, .any, .any, .any, .any, .any, .any, .any, .any, .any, .any, .any, .any, .a (.c (.slc aN e.N.length cN)), .a (.c (.int .i64 (↑e.N.length))), .a (.c (.int .i64 (↑j))), .any, .any, .any, .any, .any, .any, .any, .any, .any, .any, .any, .any, .any, .any, .any, .any, .any, .any, .any, .any, .any, .any, .any, .any, .any, .any, .any, .any, .any], [[.past W ms], lsC Bj cj, evS e ⟨aN, e.N.length, cN, aD, e.D.length, cD⟩]⟩,
      fun (j, Bj, cj) => (j ≤ e.N.length ∧ Bj.length ≤ cj ∧ Bj.length ≤ 12 + 140 * i + 16 + 8 * j) ∧ Bj = B1 ++ putAll (e.N.take j), fun (j, _, _) => e.N.length - j, ⟨(0, B1, c6), [0, 6, 2], ⟨⟨rfl, rfl, rfl⟩, ?_⟩, ⟨Nat.zero_le _, by omega, by omega⟩, by rw [List.take_zero]; exact (List.append_nil _).symm⟩, fun (j, Bj, cj) hp => ?_⟩
    · (repeat first | exact trivial | refine ent1 ?_)
      refine ⟨fun j hj => eqC_bytes (fun i hi => ?_) j, by (repeat first | exact trivial | refine ent1 ?_)⟩
      rw [hB1]
      refine app_row (l := B ++ putL (BitVec.setWidth 64 e.k)) (m := putL (e.t - last)) (List.length_append ..) rfl (fun i hi => ?_) (fun i hi => ?_) i (by rw [hB1l] at hi; exact hi)
      · refine app_row (l := B) (m := putL (BitVec.setWidth 64 e.k)) rfl rfl (fun i hi => bytesF_lt hi) (fun i hi => ?_) i hi
        show SC.mp _ (bytesF _ _ i) = _
        rw [bytesF_lt hi]; rfl
      · show SC.mp _ (bytesF _ _ i) = _
        rw [bytesF_lt hi]; rfl
    obtain ⟨⟨j1, j2, j3⟩, hBj⟩ := hp
    refine And.intro (fun hlt2 => ?_) (fun hge2 => ?_)
    · have hlt2 : j < e.N.length := by have : (j : Int) < (e.N.length : Int) := of_decide_eq_true hlt2; omega
      obtain ⟨m, hm⟩ : ∃ m, e.N[j]? = some m := ⟨_, List.getElem?_eq_getElem hlt2⟩
      have hm0 := hge.n m (List.mem_of_getElem? hm)
      have hm8 := lenN_le m
      have hml := putL_len m
      cases haN : aN with
      | none => rw [haN] at hxN; have := hxN.nil_.1; omega
      | some AN =>
      subst haN
      have hNle := hxN.le
      (repeat first | (refine And.intro ?_ ?_; first | exact rfl | ((exact fun h => absurd h (by first | decide)); intro yy; clear yy) | (rotate_left; (exact fun h => absurd h (by first | decide)); intro yy; clear yy) | decide | omega) | (with_reducible refine frc_bytesL (by first | omega | decide) ?_) | (with_reducible refine frc_bytesM (by first | omega | decide) ?_))
      refine loadR (i := 0) rfl (hxN.im AN rfl (by omega)) (j := j * 1) (map_get? (by rw [Nat.mul_one]; exact hm)) ?_
      (repeat first | (refine And.intro ?_ ?_; first | exact rfl | ((exact fun h => absurd h (by first | decide)); intro yy; clear yy) | (rotate_left; (exact fun h => absurd h (by first | decide)); intro yy; clear yy) | decide | omega) | (with_reducible refine frc_bytesL (by first | omega | decide) ?_) | (with_reducible refine frc_bytesM (by first | omega | decide) ?_))
      refine call_same (fn_qput m hm0) [] rfl (by (repeat first | exact trivial | refine ent1 ?_)) trivial (fun _ _ => trivial) ?_
      rintro x hs' ⟨c7, hc7, rfl, rfl⟩
      (repeat first | (refine And.intro ?_ ?_; first | exact rfl | ((exact fun h => absurd h (by first | decide)); intro yy; clear yy) | (rotate_left; (exact fun h => absurd h (by first | decide)); intro yy; clear yy) | decide | omega) | (with_reducible refine frc_bytesL (by first | omega | decide) ?_) | (with_reducible refine frc_bytesM (by first | omega | decide) ?_))
      refine ⟨by show 0 + (putL m).length ≤ c7; omega, ?_⟩
      refine ⟨⟨j2, by show 0 + cj ≤ cj; omega, by show (Bj.length + (putL m).length) * 1 ≤ 140737488355328; omega⟩, fun c8 hc8 => ?_⟩
      (repeat first | (refine And.intro ?_ ?_; first | exact rfl | ((exact fun h => absurd h (by first | decide)); intro yy; clear yy) | (rotate_left; (exact fun h => absurd h (by first | decide)); intro yy; clear yy) | decide | omega) | (with_reducible refine frc_bytesL (by first | omega | decide) ?_) | (with_reducible refine frc_bytesM (by first | omega | decide) ?_))
      obtain ⟨Q, hQ⟩ : ∃ Q, Q = Bj ++ putL m := ⟨_, rfl⟩
      have hQl : Q.length = Bj.length + (putL m).length := by rw [hQ, List.length_append]
      refine ⟨(j + 1, Q, c8), [0, 4, 2], ⟨⟨rfl, rfl, rfl⟩, ?_⟩, ⟨⟨by omega, by omega, by omega⟩, by rw [hQ, hBj, take_succ hm, putAll_snoc, List.append_assoc]⟩, by dsimp only; omega⟩
      (repeat first | exact trivial | refine ent1 ?_)
      refine ⟨fun j hj => eqC_bytes (fun i hi => ?_) j, by (repeat first | exact trivial | refine ent1 ?_)⟩
      rw [hQ]
      refine app_row (l := Bj) (m := putL m) rfl rfl (fun i hi => bytesF_lt hi) (fun i hi => ?_) i (by rw [hQl] at hi; exact hi)
      show SC.mp _ (bytesF _ _ i) = _
      rw [bytesF_lt hi]; rfl
    · obtain rfl : j = e.N.length := by have : ¬ (j : Int) < (e.N.length : Int) := of_decide_eq_false hge2; omega
      rw [List.take_length] at hBj
      rw [← hBj] at hBB
      (repeat first | (refine And.intro ?_ ?_; first | exact rfl | ((exact fun h => absurd h (by first | decide)); intro yy; clear yy) | (rotate_left; (exact fun h => absurd h (by first | decide)); intro yy; clear yy) | decide | omega) | (with_reducible refine frc_bytesL (by first | omega | decide) ?_) | (with_reducible refine frc_bytesM (by first | omega | decide) ?_))
      refine call_same (fn_many e.k hge.k) [] rfl (by (repeat first | exact trivial | refine ent1 ?_)) trivial (fun _ _ => trivial) ?_
      rintro y hs' ⟨rfl, rfl⟩
      cases hdt : evData e.k
      · rw [hdt, if_neg (by decide), List.append_nil] at hBB
        (repeat first | (refine And.intro ?_ ?_; first | exact rfl | ((exact fun h => absurd h (by first | decide)); intro yy; clear yy) | (rotate_left; (exact fun h => absurd h (by first | decide)); intro yy; clear yy) | decide | omega) | (with_reducible refine frc_bytesL (by first | omega | decide) ?_) | (with_reducible refine frc_bytesM (by first | omega | decide) ?_))
        refine ⟨(i + 1, e.t, Bj, cj), [0, 1], ⟨⟨rfl, rfl, rfl⟩, ?_⟩, ⟨⟨by omega, by rw [hBB] at hBl; exact hBl, j2⟩, hgr, by rw [← hBB, List.append_assoc]; exact hE⟩, by dsimp only; omega⟩
        (repeat first | exact trivial | refine ent1 ?_)
      · rw [hdt, if_pos rfl] at hBB
        have hd0 : lenN (BitVec.ofInt 64 (e.D.length : Int)) ≠ 0 := by rw [BitVec.ofInt_natCast]; exact lenN_of (by omega)
        have hd8 := lenN_le (BitVec.ofInt 64 (e.D.length : Int))
        have hdl := putL_len (BitVec.ofInt 64 (e.D.length : Int))
        (repeat first | (refine And.intro ?_ ?_; first | exact rfl | ((exact fun h => absurd h (by first | decide)); intro yy; clear yy) | (rotate_left; (exact fun h => absurd h (by first | decide)); intro yy; clear yy) | decide | omega) | (with_reducible refine frc_bytesL (by first | omega | decide) ?_) | (with_reducible refine frc_bytesM (by first | omega | decide) ?_))
        refine ⟨some [2], [], [(0, true), (1, true), (2, true), (3, true), (4, true), (7, true), (8, true), (5, false), (6, false), (9, false)], [10], by kernel_rfl, ?_⟩
        (repeat first | (refine And.intro ?_ ?_; first | exact rfl | ((exact fun h => absurd h (by first | decide)); intro yy; clear yy) | (rotate_left; (exact fun h => absurd h (by first | decide)); intro yy; clear yy) | decide | omega) | (with_reducible refine frc_bytesL (by first | omega | decide) ?_) | (with_reducible refine frc_bytesM (by first | omega | decide) ?_))
        refine call_same (fn_qput (BitVec.ofInt 64 (e.D.length : Int)) hd0) [] rfl (by (repeat first | exact trivial | refine ent1 ?_)) trivial (fun _ _ => trivial) ?_
        rintro x hs' ⟨c7, hc7, rfl, rfl⟩
        (repeat first | (refine And.intro ?_ ?_; first | exact rfl | ((exact fun h => absurd h (by first | decide)); intro yy; clear yy) | (rotate_left; (exact fun h => absurd h (by first | decide)); intro yy; clear yy) | decide | omega) | (with_reducible refine frc_bytesL (by first | omega | decide) ?_) | (with_reducible refine frc_bytesM (by first | omega | decide) ?_))
        refine ⟨by show 0 + (putL (BitVec.ofInt 64 (e.D.length : Int))).length ≤ c7; omega, ?_⟩
        refine ⟨⟨j2, by show 0 + cj ≤ cj; omega, by show (Bj.length + (putL (BitVec.ofInt 64 (e.D.length : Int))).length) * 1 ≤ 140737488355328; omega⟩, fun c8 hc8 => ?_⟩
        (repeat first | (refine And.intro ?_ ?_; first | exact rfl | ((exact fun h => absurd h (by first | decide)); intro yy; clear yy) | (rotate_left; (exact fun h => absurd h (by first | decide)); intro yy; clear yy) | decide | omega) | (with_reducible refine frc_bytesL (by first | omega | decide) ?_) | (with_reducible refine frc_bytesM (by first | omega | decide) ?_))
        obtain ⟨Q, hQ⟩ : ∃ Q, Q = (Bj ++ putL (BitVec.ofInt 64 (e.D.length : Int))) ++ e.D := ⟨_, rfl⟩
        have hQl : Q.length = Bj.length + (putL (BitVec.ofInt 64 (e.D.length : Int))).length + e.D.length := by rw [hQ, List.length_append, List.length_append]
        have hQB : B ++ evB last e = Q := by rw [hBB, hQ, BitVec.ofInt_natCast]; show Bj ++ (putL _ ++ e.D) = _; rw [List.append_assoc]
        rw [hQB] at hBl
        have hQE : Q ++ catE e.t (es.drop (i + 1)) = encB es := by rw [← hQB, List.append_assoc]; exact hE
        have hcell : ∀ {g : Nat → Nat}, ∀ i, i < (putL (BitVec.ofInt 64 (e.D.length : Int))).length → SC.mp g (bytesF (putL (BitVec.ofInt 64 (e.D.length : Int))).length (L (putL (BitVec.ofInt 64 (e.D.length : Int)))) i) = .w8 (L (putL (BitVec.ofInt 64 (e.D.length : Int))) i) := fun i hi => by rw [bytesF_lt hi]; rfl
        cases haD : aD with
        | none =>
          subst haD
          have hD0 := hxD.nil_.1
          refine And.intro hD0 ?_
          refine ⟨⟨hc8, by show 0 + c8 ≤ c8; omega, by show (Bj.length + (putL (BitVec.ofInt 64 (e.D.length : Int))).length + 0) * 1 ≤ 140737488355328; omega⟩, fun c9 hc9 => ?_⟩
          have hc9 : Bj.length + (putL (BitVec.ofInt 64 (e.D.length : Int))).length + 0 ≤ c9 := hc9
          (repeat first | (refine And.intro ?_ ?_; first | exact rfl | ((exact fun h => absurd h (by first | decide)); intro yy; clear yy) | (rotate_left; (exact fun h => absurd h (by first | decide)); intro yy; clear yy) | decide | omega) | (with_reducible refine frc_bytesL (by first | omega | decide) ?_) | (with_reducible refine frc_bytesM (by first | omega | decide) ?_))
          refine ⟨(i + 1, e.t, Q, c9), [0, 5], ⟨⟨rfl, rfl, rfl⟩, ?_⟩, ⟨⟨by omega, hBl, by omega⟩, hgr, hQE⟩, by dsimp only; omega⟩
          (repeat first | exact trivial | refine ent1 ?_)
          
          (repeat first | exact trivial | refine ent1 ?_)
          refine ⟨fun j hj => eqC_bytes (fun i hi => ?_) j, by (repeat first | exact trivial | refine ent1 ?_)⟩
          rw [hQ]
          refine app_row (l := Bj ++ putL (BitVec.ofInt 64 (e.D.length : Int))) (m := e.D) (List.length_append ..) hD0 (fun i hi => ?_) (fun i hi => ?_) i (by rw [hQl] at hi; omega)
          · exact app_row (l := Bj) (m := putL (BitVec.ofInt 64 (e.D.length : Int))) rfl rfl (fun i hi => bytesF_lt hi) (fun i hi => hcell i hi) i hi
          · omega
        | some AD =>
          subst haD
          refine srcR (i := 0) (by rfl) hxD ?_
          refine ⟨⟨hc8, by show 0 + c8 ≤ c8; omega, by show (Bj.length + (putL (BitVec.ofInt 64 (e.D.length : Int))).length + e.D.length) * 1 ≤ 140737488355328; omega⟩, fun c9 hc9 => ?_⟩
          have hc9 : Bj.length + (putL (BitVec.ofInt 64 (e.D.length : Int))).length + e.D.length ≤ c9 := hc9
          (repeat first | (refine And.intro ?_ ?_; first | exact rfl | ((exact fun h => absurd h (by first | decide)); intro yy; clear yy) | (rotate_left; (exact fun h => absurd h (by first | decide)); intro yy; clear yy) | decide | omega) | (with_reducible refine frc_bytesL (by first | omega | decide) ?_) | (with_reducible refine frc_bytesM (by first | omega | decide) ?_))
          refine ⟨(i + 1, e.t, Q, c9), [0, 5], ⟨⟨rfl, rfl, rfl⟩, ?_⟩, ⟨⟨by omega, hBl, by omega⟩, hgr, hQE⟩, by dsimp only; omega⟩
          (repeat first | exact trivial | refine ent1 ?_)
          refine And.intro (show Bj.length + (putL (BitVec.ofInt 64 (e.D.length : Int))).length + e.D.length = Q.length by omega) ?_
          (repeat first | exact trivial | refine ent1 ?_)
          refine ⟨fun j hj => eqC_bytes (fun i hi => ?_) j, by (repeat first | exact trivial | refine ent1 ?_)⟩
          rw [hQ]
          refine app_row (l := Bj ++ putL (BitVec.ofInt 64 (e.D.length : Int))) (m := e.D) (List.length_append ..) rfl (fun i hi => ?_) (fun i hi => ?_) i (by rw [hQl] at hi; omega)
          · exact app_row (l := Bj) (m := putL (BitVec.ofInt 64 (e.D.length : Int))) rfl rfl (fun i hi => bytesF_lt hi) (fun i hi => hcell i hi) i hi
          · exact nthC_w8 e.D i hi
  · obtain rfl : i = n := by have : ¬ (i : Int) < (n : Int) := of_decide_eq_false hge; omega
    rw [List.drop_eq_nil_of_le (by omega), catE, List.append_nil] at hE
    subst hE
    (repeat first | (refine And.intro ?_ ?_; first | exact rfl | ((exact fun h => absurd h (by first | decide)); intro yy; clear yy) | (rotate_left; (exact fun h => absurd h (by first | decide)); intro yy; clear yy) | decide | omega) | (with_reducible refine frc_bytesL (by first | omega | decide) ?_) | (with_reducible refine frc_bytesM (by first | omega | decide) ?_))
    refine ⟨.a (.c (.sl 1 0 0 (encB es).length cB)), _, ⟨[0, 1], ⟨rfl, rfl, rfl⟩, ?_⟩, cB, g3, rfl, rfl⟩
    (repeat first | exact trivial | refine ent1 ?_)
end Sx
end Go.Proofs.Ytdakmieapdpidaa
end

section
/-
  Rows of no events; frozen rows. No condition.
-/
namespace Go.Proofs.Ytdakmieapdpidaa
set_option linter.unusedVariables false
namespace Sx
open Go.RowKit Sha Vi Ev

set_option maxRecDepth 20000 in
theorem fn_erow0 {W : World} {ms : List Nat} {a : Option Addr} {n c : Nat} (hn : n = 0) {aK : Option Addr} {nK cK : Nat} :
    FnR Try.prog tds 9 1 [[.past W ms]] [.c (.slc a n c), .c (.slc aK nK cK)] (fun _ => True)
    (fun y hs => y = .a (.c (.slc none 0 0)) ∧ hs = [[.past W ms]]) := by
  subst hn
  refine fn_of_body tds_ok follows_ Try.func9 rfl (t := .a (.c (.slc a 0 c)) :: .a (.c (.slc aK nK cK)) :: anys (Try.f9.ntmps - 2)) rfl (fun w r0 hr _ => ?_)
  obtain ⟨x0, rfl⟩ := List.length_eq_one_iff.1 hr
  (repeat first | (refine And.intro ?_ ?_; first | exact rfl | ((exact fun h => absurd h (by first | decide)); intro yy; clear yy) | (rotate_left; (exact fun h => absurd h (by first | decide)); intro yy; clear yy) | decide | omega) | (with_reducible refine frc_bytesL (by first | omega | decide) ?_) | (with_reducible refine frc_bytesM (by first | omega | decide) ?_))
  refine .inr ⟨1, ?_⟩
  (repeat first | (refine And.intro ?_ ?_; first | exact rfl | ((exact fun h => absurd h (by first | decide)); intro yy; clear yy) | (rotate_left; (exact fun h => absurd h (by first | decide)); intro yy; clear yy) | decide | omega) | (with_reducible refine frc_bytesL (by first | omega | decide) ?_) | (with_reducible refine frc_bytesM (by first | omega | decide) ?_))
  refine ⟨.a (.c (.slc none 0 0)), [[.past W ms]], ⟨[0], ⟨rfl, rfl, rfl⟩, ?_⟩, rfl, rfl⟩
  (repeat first | exact trivial | refine ent1 ?_)
end Sx
end Go.Proofs.Ytdakmieapdpidaa
end

section
/-
  The law BlogBytes. No condition.
-/
namespace Go.Proofs.Ytdakmieapdpidaa
set_option linter.unusedVariables false
namespace Sx
open Go.RowKit Sha Vi Ev

set_option maxRecDepth 20000 in
set_option maxHeartbeats 16000000 in
theorem fn_blogBytes0 {W : World} {ms : List Nat} {a : Option Addr} {n c : Nat} {es : List Ev} (h : EvsAt W ms a n c es) {aK : Option Addr} {nK cK : Nat} {ks : Bs} (hK : BsAt W ms aK nK cK ks) (cut : Bool) (hn : n = 0) :
    FnR Try.prog tds 5 1 [[.past W ms]] [.c (.slc a n c), .c (.slc aK nK cK), .c (.bool cut)] (fun _ => True)
    (fun y hs => ∃ W' ms', y = .a (.c (.bool true)) ∧ hs = [[.past W' ms']]) := by
  have hlen := h.len
  have hes : es = [] := List.eq_nil_of_length_eq_zero (by omega)
  have hL : lightE es = true := by rw [hes]; rfl
  refine fn_of_body tds_ok follows_ Try.func5 rfl (t := .a (.c (.slc a n c)) :: .a (.c (.slc aK nK cK)) :: .a (.c (.bool cut)) :: anys (Try.f5.ntmps - 3)) rfl (fun w r0 hr _ => ?_)
  obtain ⟨x0, rfl⟩ := List.length_eq_one_iff.1 hr
  (repeat first | (refine And.intro ?_ ?_; first | exact rfl | ((exact fun h => absurd h (by first | decide)); intro yy; clear yy) | (rotate_left; (exact fun h => absurd h (by first | decide)); intro yy; clear yy) | decide | omega) | (with_reducible refine frc_bytesL (by first | omega | decide) ?_) | (with_reducible refine frc_bytesM (by first | omega | decide) ?_))
  refine call_same (fn_bawake (W := W) (ms := ms)) [0] rfl (by (repeat first | exact trivial | refine ent1 ?_)) (by (repeat first | exact trivial | refine ent1 ?_)) (fun _ _ => trivial) ?_
  rintro x hs' ⟨rfl, rfl⟩
  (repeat first | (refine And.intro ?_ ?_; first | exact rfl | ((exact fun h => absurd h (by first | decide)); intro yy; clear yy) | (rotate_left; (exact fun h => absurd h (by first | decide)); intro yy; clear yy) | decide | omega) | (with_reducible refine frc_bytesL (by first | omega | decide) ?_) | (with_reducible refine frc_bytesM (by first | omega | decide) ?_))
  refine call_same (fn_light h) [0] rfl (by (repeat first | exact trivial | refine ent1 ?_)) (by (repeat first | exact trivial | refine ent1 ?_)) (fun _ _ => trivial) ?_
  rintro x hs' ⟨rfl, rfl⟩
  rw [hL]
  (repeat first | (refine And.intro ?_ ?_; first | exact rfl | ((exact fun h => absurd h (by first | decide)); intro yy; clear yy) | (rotate_left; (exact fun h => absurd h (by first | decide)); intro yy; clear yy) | decide | omega) | (with_reducible refine frc_bytesL (by first | omega | decide) ?_) | (with_reducible refine frc_bytesM (by first | omega | decide) ?_))
  refine call_same (fn_erow0 (W := W) (ms := ms) hn) [0] rfl (by (repeat first | exact trivial | refine ent1 ?_)) (by (repeat first | exact trivial | refine ent1 ?_)) (fun _ _ => trivial) ?_
  rintro x hs' ⟨rfl, rfl⟩
  have rest : ∀ (b : Bool), b = cut → True := fun _ _ => trivial
  cases cut
  · (repeat first | (refine And.intro ?_ ?_; first | exact rfl | ((exact fun h => absurd h (by first | decide)); intro yy; clear yy) | (rotate_left; (exact fun h => absurd h (by first | decide)); intro yy; clear yy) | decide | omega) | (with_reducible refine frc_bytesL (by first | omega | decide) ?_) | (with_reducible refine frc_bytesM (by first | omega | decide) ?_))
    refine call_same (fn_bencode (W := W) (ms := ms) EvsAt.nul) [0] rfl (by (repeat first | exact trivial | refine ent1 ?_)) (by (repeat first | exact trivial | refine ent1 ?_)) (fun _ _ => trivial) ?_
    rintro x hs' ⟨-, hk⟩
    obtain ⟨t, e, hM, ht, rfl, rfl⟩ := hk (by omega)
    have hdec := dec_enc (es := []) enc_nil
    rw [enc_nil] at hM
    obtain ⟨htl, rfl⟩ : t.l = [66#8, 73#8, 78#8, 49#8, 0#8] ∧ 0 = e := by simp only [Prod.mk.injEq] at hM; exact ⟨hM.1.symm, hM.2⟩
    (repeat first | (refine And.intro ?_ ?_; first | exact rfl | ((exact fun h => absurd h (by first | decide)); intro yy; clear yy) | (rotate_left; (exact fun h => absurd h (by first | decide)); intro yy; clear yy) | decide | omega) | (with_reducible refine frc_bytesL (by first | omega | decide) ?_) | (with_reducible refine frc_bytesM (by first | omega | decide) ?_))
    refine call_past (fn_bdecode (W := W) (ms := ms) t ht) 0 [1] rfl rfl (by (repeat first | exact trivial | refine ent1 ?_)) ?_ (fun _ _ => trivial) (fun x hs hr => ?_) ?_
    · (repeat first | exact trivial | refine ent1 ?_)
      first | refine eqC_btsM ?_ | refine eqC_bts ?_
      (repeat first | exact trivial | refine ent1 ?_)
    · obtain ⟨es2, a2, n2, c2, e2, W2, ms2, _, hL2, _, _, rfl⟩ := hr
      exact ⟨W2, ms2, rfl, hL2⟩
    rintro y hs' ⟨es2, a2, n2, c2, e2, W2, ms2, hD2, hL2, hE2, rfl, rfl⟩
    rw [htl, hdec] at hD2
    obtain ⟨rfl, rfl⟩ : [] = es2 ∧ 0 = e2 := by simp only [Prod.mk.injEq] at hD2; exact hD2
    (repeat first | (refine And.intro ?_ ?_; first | exact rfl | ((exact fun h => absurd h (by first | decide)); intro yy; clear yy) | (rotate_left; (exact fun h => absurd h (by first | decide)); intro yy; clear yy) | decide | omega) | (with_reducible refine frc_bytesL (by first | omega | decide) ?_) | (with_reducible refine frc_bytesM (by first | omega | decide) ?_))
    refine ⟨none, [], [(0, true), (1, true), (2, true), (3, true), (4, true), (5, true), (6, true), (7, true), (8, true), (9, true), (10, false), (11, true), (12, true), (13, true), (14, true), (15, true), (16, true), (17, false), (18, true), (19, true)], [], by (show planAny tds _ _ _ _ = true; decide +kernel), ?_⟩
    (repeat first | (refine And.intro ?_ ?_; first | exact rfl | ((exact fun h => absurd h (by first | decide)); intro yy; clear yy) | (rotate_left; (exact fun h => absurd h (by first | decide)); intro yy; clear yy) | decide | omega) | (with_reducible refine frc_bytesL (by first | omega | decide) ?_) | (with_reducible refine frc_bytesM (by first | omega | decide) ?_))
    refine sn_btsM rfl ht.fit (fun h => by rw [ht.nil h]; rfl) (fun g hg => ?_)
    refine ⟨U8 t.l, ⟨U8_len _, fun q hq => by rw [hg q hq, U8_get _ _ hq]⟩, ?_⟩
    (repeat first | (refine And.intro ?_ ?_; first | exact rfl | ((exact fun h => absurd h (by first | decide)); intro yy; clear yy) | (rotate_left; (exact fun h => absurd h (by first | decide)); intro yy; clear yy) | decide | omega) | (with_reducible refine frc_bytesL (by first | omega | decide) ?_) | (with_reducible refine frc_bytesM (by first | omega | decide) ?_))
    refine call_same (fn_bencoded (W := W2) (ms := ms2) EvsAt.nul trivial (by omega)) [0] rfl (by (repeat first | exact trivial | refine ent1 ?_)) (by (repeat first | exact trivial | refine ent1 ?_)) (fun _ _ => trivial) ?_
    rintro x hs' ⟨c5, hc5, rfl, rfl⟩
    (repeat first | (refine And.intro ?_ ?_; first | exact rfl | ((exact fun h => absurd h (by first | decide)); intro yy; clear yy) | (rotate_left; (exact fun h => absurd h (by first | decide)); intro yy; clear yy) | decide | omega) | (with_reducible refine frc_bytesL (by first | omega | decide) ?_) | (with_reducible refine frc_bytesM (by first | omega | decide) ?_))
    refine And.intro (show 0 + (encB []).length ≤ c5 by omega) ?_
    refine ⟨U8 (encB []), ⟨U8_len _, fun q hq => ?_⟩, ?_⟩
    · show SC.mp _ (bytesF _ _ (q + 0)) = _
      rw [Nat.add_zero, bytesF_lt hq, U8_get _ _ hq]; rfl
    have hcmp : decide (U8 t.l = U8 (encB [])) = true := by rw [htl]; decide
    (repeat first | (refine And.intro ?_ ?_; first | exact rfl | ((exact fun h => absurd h (by first | decide | (rw [hcmp]; decide))); intro yy; clear yy) | (rotate_left; (exact fun h => absurd h (by first | decide | (rw [hcmp]; decide))); intro yy; clear yy) | decide | omega) | (with_reducible refine frc_bytesL (by first | omega | decide) ?_) | (with_reducible refine frc_bytesM (by first | omega | decide) ?_))
    refine call_same (fn_bsame (W := W2) (ms := ms2) hE2 EvsAt.nul) [0] rfl (by (repeat first | exact trivial | refine ent1 ?_)) (by (repeat first | exact trivial | refine ent1 ?_)) (fun _ _ => trivial) ?_
    rintro x hs' ⟨⟨r, hr, rfl⟩, rfl⟩
    have hr1 : r = true := hr.2 rfl
    subst hr1
    (repeat first | (refine And.intro ?_ ?_; first | exact rfl | ((exact fun h => absurd h (by first | decide | (rw [hcmp]; decide))); intro yy; clear yy) | (rotate_left; (exact fun h => absurd h (by first | decide | (rw [hcmp]; decide))); intro yy; clear yy) | decide | omega) | (with_reducible refine frc_bytesL (by first | omega | decide) ?_) | (with_reducible refine frc_bytesM (by first | omega | decide) ?_))
    refine ⟨.a (.c (.bool true)), [[.past W2 ms2]], ⟨[0], ⟨rfl, rfl, rfl⟩, ?_⟩, W2, ms2, rfl, rfl⟩
    (repeat first | exact trivial | refine ent1 ?_)
  · (repeat first | (refine And.intro ?_ ?_; first | exact rfl | ((exact fun h => absurd h (by first | decide)); intro yy; clear yy) | (rotate_left; (exact fun h => absurd h (by first | decide)); intro yy; clear yy) | decide | omega) | (with_reducible refine frc_bytesL (by first | omega | decide) ?_) | (with_reducible refine frc_bytesM (by first | omega | decide) ?_))
    refine call_same (fn_bencode (W := W) (ms := ms) EvsAt.nul) [0] rfl (by (repeat first | exact trivial | refine ent1 ?_)) (by (repeat first | exact trivial | refine ent1 ?_)) (fun _ _ => trivial) ?_
    rintro x hs' ⟨-, hk⟩
    obtain ⟨t, e, hM, ht, rfl, rfl⟩ := hk (by omega)
    have hdec := dec_enc (es := []) enc_nil
    rw [enc_nil] at hM
    obtain ⟨htl, rfl⟩ : t.l = [66#8, 73#8, 78#8, 49#8, 0#8] ∧ 0 = e := by simp only [Prod.mk.injEq] at hM; exact ⟨hM.1.symm, hM.2⟩
    (repeat first | (refine And.intro ?_ ?_; first | exact rfl | ((exact fun h => absurd h (by first | decide)); intro yy; clear yy) | (rotate_left; (exact fun h => absurd h (by first | decide)); intro yy; clear yy) | decide | omega) | (with_reducible refine frc_bytesL (by first | omega | decide) ?_) | (with_reducible refine frc_bytesM (by first | omega | decide) ?_))
    refine call_past (fn_bdecode (W := W) (ms := ms) t ht) 0 [1] rfl rfl (by (repeat first | exact trivial | refine ent1 ?_)) ?_ (fun _ _ => trivial) (fun x hs hr => ?_) ?_
    · (repeat first | exact trivial | refine ent1 ?_)
      first | refine eqC_btsM ?_ | refine eqC_bts ?_
      (repeat first | exact trivial | refine ent1 ?_)
    · obtain ⟨es2, a2, n2, c2, e2, W2, ms2, _, hL2, _, _, rfl⟩ := hr
      exact ⟨W2, ms2, rfl, hL2⟩
    rintro y hs' ⟨es2, a2, n2, c2, e2, W2, ms2, hD2, hL2, hE2, rfl, rfl⟩
    rw [htl, hdec] at hD2
    obtain ⟨rfl, rfl⟩ : [] = es2 ∧ 0 = e2 := by simp only [Prod.mk.injEq] at hD2; exact hD2
    (repeat first | (refine And.intro ?_ ?_; first | exact rfl | ((exact fun h => absurd h (by first | decide)); intro yy; clear yy) | (rotate_left; (exact fun h => absurd h (by first | decide)); intro yy; clear yy) | decide | omega) | (with_reducible refine frc_bytesL (by first | omega | decide) ?_) | (with_reducible refine frc_bytesM (by first | omega | decide) ?_))
    refine ⟨none, [], [(0, true), (1, true), (2, true), (3, true), (4, true), (5, true), (6, true), (7, true), (8, true), (9, true), (10, false), (11, true), (12, true), (13, true), (14, true), (15, true), (16, true), (17, false), (18, true), (19, true)], [], by (show planAny tds _ _ _ _ = true; decide +kernel), ?_⟩
    (repeat first | (refine And.intro ?_ ?_; first | exact rfl | ((exact fun h => absurd h (by first | decide)); intro yy; clear yy) | (rotate_left; (exact fun h => absurd h (by first | decide)); intro yy; clear yy) | decide | omega) | (with_reducible refine frc_bytesL (by first | omega | decide) ?_) | (with_reducible refine frc_bytesM (by first | omega | decide) ?_))
    refine sn_btsM rfl ht.fit (fun h => by rw [ht.nil h]; rfl) (fun g hg => ?_)
    refine ⟨U8 t.l, ⟨U8_len _, fun q hq => by rw [hg q hq, U8_get _ _ hq]⟩, ?_⟩
    (repeat first | (refine And.intro ?_ ?_; first | exact rfl | ((exact fun h => absurd h (by first | decide)); intro yy; clear yy) | (rotate_left; (exact fun h => absurd h (by first | decide)); intro yy; clear yy) | decide | omega) | (with_reducible refine frc_bytesL (by first | omega | decide) ?_) | (with_reducible refine frc_bytesM (by first | omega | decide) ?_))
    refine call_same (fn_bencoded (W := W2) (ms := ms2) EvsAt.nul trivial (by omega)) [0] rfl (by (repeat first | exact trivial | refine ent1 ?_)) (by (repeat first | exact trivial | refine ent1 ?_)) (fun _ _ => trivial) ?_
    rintro x hs' ⟨c5, hc5, rfl, rfl⟩
    (repeat first | (refine And.intro ?_ ?_; first | exact rfl | ((exact fun h => absurd h (by first | decide)); intro yy; clear yy) | (rotate_left; (exact fun h => absurd h (by first | decide)); intro yy; clear yy) | decide | omega) | (with_reducible refine frc_bytesL (by first | omega | decide) ?_) | (with_reducible refine frc_bytesM (by first | omega | decide) ?_))
    refine And.intro (show 0 + (encB []).length ≤ c5 by omega) ?_
    refine ⟨U8 (encB []), ⟨U8_len _, fun q hq => ?_⟩, ?_⟩
    · show SC.mp _ (bytesF _ _ (q + 0)) = _
      rw [Nat.add_zero, bytesF_lt hq, U8_get _ _ hq]; rfl
    have hcmp : decide (U8 t.l = U8 (encB [])) = true := by rw [htl]; decide
    (repeat first | (refine And.intro ?_ ?_; first | exact rfl | ((exact fun h => absurd h (by first | decide | (rw [hcmp]; decide))); intro yy; clear yy) | (rotate_left; (exact fun h => absurd h (by first | decide | (rw [hcmp]; decide))); intro yy; clear yy) | decide | omega) | (with_reducible refine frc_bytesL (by first | omega | decide) ?_) | (with_reducible refine frc_bytesM (by first | omega | decide) ?_))
    refine call_same (fn_bsame (W := W2) (ms := ms2) hE2 EvsAt.nul) [0] rfl (by (repeat first | exact trivial | refine ent1 ?_)) (by (repeat first | exact trivial | refine ent1 ?_)) (fun _ _ => trivial) ?_
    rintro x hs' ⟨⟨r, hr, rfl⟩, rfl⟩
    have hr1 : r = true := hr.2 rfl
    subst hr1
    (repeat first | (refine And.intro ?_ ?_; first | exact rfl | ((exact fun h => absurd h (by first | decide | (rw [hcmp]; decide))); intro yy; clear yy) | (rotate_left; (exact fun h => absurd h (by first | decide | (rw [hcmp]; decide))); intro yy; clear yy) | decide | omega) | (with_reducible refine frc_bytesL (by first | omega | decide) ?_) | (with_reducible refine frc_bytesM (by first | omega | decide) ?_))
    refine ⟨.a (.c (.bool true)), [[.past W2 ms2]], ⟨[0], ⟨rfl, rfl, rfl⟩, ?_⟩, W2, ms2, rfl, rfl⟩
    (repeat first | exact trivial | refine ent1 ?_)
end Sx
end Go.Proofs.Ytdakmieapdpidaa
end

section
/-
  The law BlogBytes, some events. No condition.
-/
namespace Go.Proofs.Ytdakmieapdpidaa
set_option linter.unusedVariables false
namespace Sx
open Go.RowKit Sha Vi Ev

theorem mp_row {g : Nat → Nat} {N : Nat} {cs : List SC} (h : ∀ x ∈ cs, x.raw = x) : mpL g [.row N (nthC cs)] = [.row N (nthC cs)] := by
  show [Seg.row N (fun j => SC.mp g (nthC cs j))] = _
  congr 2
  funext j
  rcases Nat.lt_or_ge j cs.length with hj | hj
  · exact mp_raw (h _ (nthC_mem hj))
  · rw [nthC_out hj]; rfl
set_option maxRecDepth 20000 in
set_option maxHeartbeats 16000000 in
theorem fn_blogBytes1 {W : World} {ms : List Nat} {a : Option Addr} {n c : Nat} {es : List Ev} (h : EvsAt W ms a n c es) {aK : Option Addr} {nK cK : Nat} {ks : Bs} (hK : BsAt W ms aK nK cK ks) (hL : lightE es = true) (hn : 0 < n) :
    FnR Try.prog tds 5 1 [[.past W ms]] [.c (.slc a n c), .c (.slc aK nK cK), .c (.bool false)] (fun _ => True)
    (fun y hs => ∃ W' ms', y = .a (.c (.bool true)) ∧ hs = [[.past W' ms']]) := by
  have hlen := h.len
  have hl2 : (∀ e ∈ es, e.N.length ≤ 30 ∧ e.D.length ≤ 100) ∧ es.length ≤ 60 := by
    unfold lightE at hL
    rw [Bool.and_eq_true] at hL
    exact ⟨of_decide_eq_true hL.1, of_decide_eq_true hL.2⟩
  refine fn_of_body tds_ok follows_ Try.func5 rfl (t := .a (.c (.slc a n c)) :: .a (.c (.slc aK nK cK)) :: .a (.c (.bool false)) :: anys (Try.f5.ntmps - 3)) rfl (fun w r0 hr _ => ?_)
  obtain ⟨x0, rfl⟩ := List.length_eq_one_iff.1 hr
  (repeat first | (refine And.intro ?_ ?_; first | exact rfl | ((exact fun h => absurd h (by first | decide)); intro yy; clear yy) | (rotate_left; (exact fun h => absurd h (by first | decide)); intro yy; clear yy) | decide | omega) | (with_reducible refine frc_bytesL (by first | omega | decide) ?_) | (with_reducible refine frc_bytesM (by first | omega | decide) ?_))
  refine call_same (fn_bawake (W := W) (ms := ms)) [0] rfl (by (repeat first | exact trivial | refine ent1 ?_)) (by (repeat first | exact trivial | refine ent1 ?_)) (fun _ _ => trivial) ?_
  rintro x hs' ⟨rfl, rfl⟩
  (repeat first | (refine And.intro ?_ ?_; first | exact rfl | ((exact fun h => absurd h (by first | decide)); intro yy; clear yy) | (rotate_left; (exact fun h => absurd h (by first | decide)); intro yy; clear yy) | decide | omega) | (with_reducible refine frc_bytesL (by first | omega | decide) ?_) | (with_reducible refine frc_bytesM (by first | omega | decide) ?_))
  refine call_same (fn_light h) [0] rfl (by (repeat first | exact trivial | refine ent1 ?_)) (by (repeat first | exact trivial | refine ent1 ?_)) (fun _ _ => trivial) ?_
  rintro x hs' ⟨rfl, rfl⟩
  rw [hL]
  (repeat first | (refine And.intro ?_ ?_; first | exact rfl | ((exact fun h => absurd h (by first | decide)); intro yy; clear yy) | (rotate_left; (exact fun h => absurd h (by first | decide)); intro yy; clear yy) | decide | omega) | (with_reducible refine frc_bytesL (by first | omega | decide) ?_) | (with_reducible refine frc_bytesM (by first | omega | decide) ?_))
  refine call_past (fn_erow h hK hl2.1 (by omega) hn) 0 [] rfl rfl (by (repeat first | exact trivial | refine ent1 ?_)) (by (repeat first | exact trivial | refine ent1 ?_)) (fun _ _ => trivial) (fun x hs hr => ?_) ?_
  · obtain ⟨W', ms', cs, c', h1, _, _, _, rfl⟩ := hr
    exact ⟨W', ms', rfl, h1⟩
  rintro y hs' ⟨W1, ms1, cs, c', hL1, hrow, hc', rfl, rfl⟩
  obtain ⟨row, hrw⟩ : ∃ row, rowE ks es 0 0#64 = row := ⟨_, rfl⟩
  have hrl : row.length = n := by rw [← hrw, rowE_len, hlen]
  have hgood : GoodL 0#64 row := by rw [← hrw]; exact (row_good ks es 0 0#64 (by decide)).1
  rw [hrw] at hrow
  have henc := enc_of (es := row) (by omega) hgood
  (repeat first | (refine And.intro ?_ ?_; first | exact rfl | ((exact fun h => absurd h (by first | decide)); intro yy; clear yy) | (rotate_left; (exact fun h => absurd h (by first | decide)); intro yy; clear yy) | decide | omega) | (with_reducible refine frc_bytesL (by first | omega | decide) ?_) | (with_reducible refine frc_bytesM (by first | omega | decide) ?_))
  rw [mp_row hrow.raw]
  refine call_lend [1] 0 [] rfl rfl (by (repeat first | exact trivial | refine ent1 ?_)) NoP.nil (fun _ _ => trivial) (fun W' ms' α hL' hI => ⟨[.c (.slc (some ((α 1).add (0 + 0))) n c')], ?_, (fn_bencode (hrow.frz (F := fun j => memB j [1]) hL' (hI 1 rfl) hrl hc' (by omega))).mono (Res' := fun y hs => ∃ (t : Sl), t.l = encB row ∧ t.Ok ∧ y = .tup [.c (svC 1 t), .c (.int .i64 0)] ∧ hs.drop 1 = [svB t]) (fun x hs hr => ?_)⟩) (fun x hs hr => ?_) ?_
  · (repeat first | exact trivial | refine ent1 ?_)
  · obtain ⟨t, e, hM, ht, rfl, rfl⟩ := hr.2 (by omega)
    rw [henc] at hM
    simp only [Prod.mk.injEq] at hM
    obtain ⟨h1, rfl⟩ := hM
    exact ⟨t, h1.symm, ht, rfl, rfl⟩
  · obtain ⟨t, _, _, _, h1⟩ := hr
    rw [h1]
    exact NoP.cons (fun W ms => bts_ne _ _ _ _ _ W ms) NoP.nil
  rintro x hs ⟨t, htl, ht, rfl, hdrop⟩
  rw [hdrop]
  (repeat first | (refine And.intro ?_ ?_; first | exact rfl | ((exact fun h => absurd h (by first | decide)); intro yy; clear yy) | (rotate_left; (exact fun h => absurd h (by first | decide)); intro yy; clear yy) | decide | omega) | (with_reducible refine frc_bytesL (by first | omega | decide) ?_) | (with_reducible refine frc_bytesM (by first | omega | decide) ?_))
  have hdec := dec_enc (show encM row = (encB row, 0) from henc)
  refine call_past (fn_bdecode (W := W1) (ms := ms1) t ht) 0 [2] rfl rfl (by (repeat first | exact trivial | refine ent1 ?_)) ?_ (fun _ _ => trivial) (fun x hs hr => ?_) ?_
  · (repeat first | exact trivial | refine ent1 ?_)
    first | refine eqC_btsM ?_ | refine eqC_bts ?_
    (repeat first | exact trivial | refine ent1 ?_)
  · obtain ⟨es2, a2, n2, c2, e2, W2, ms2, _, hL2, _, _, rfl⟩ := hr
    exact ⟨W2, ms2, rfl, hL2⟩
  rintro y hs' ⟨es2, a2, n2, c2, e2, W2, ms2, hD2, hL2, hE2, rfl, rfl⟩
  rw [htl, hdec] at hD2
  obtain ⟨rfl, rfl⟩ : row = es2 ∧ 0 = e2 := by simp only [Prod.mk.injEq] at hD2; exact hD2
  have hrow2 := hrow.later hL2
  (repeat first | (refine And.intro ?_ ?_; first | exact rfl | ((exact fun h => absurd h (by first | decide)); intro yy; clear yy) | (rotate_left; (exact fun h => absurd h (by first | decide)); intro yy; clear yy) | decide | omega) | (with_reducible refine frc_bytesL (by first | omega | decide) ?_) | (with_reducible refine frc_bytesM (by first | omega | decide) ?_))
  refine ⟨none, [], [(0, true), (1, true), (2, true), (3, true), (4, true), (5, true), (6, true), (7, true), (8, true), (9, true), (10, false), (11, true), (12, true), (13, true), (14, true), (15, true), (16, true), (17, false), (18, true), (19, true)], [], by kernel_rfl, ?_⟩
  (repeat first | (refine And.intro ?_ ?_; first | exact rfl | ((exact fun h => absurd h (by first | decide)); intro yy; clear yy) | (rotate_left; (exact fun h => absurd h (by first | decide)); intro yy; clear yy) | decide | omega) | (with_reducible refine frc_bytesL (by first | omega | decide) ?_) | (with_reducible refine frc_bytesM (by first | omega | decide) ?_))
  refine sn_btsM rfl ht.fit (fun h => by rw [ht.nil h]; rfl) (fun g hg => ?_)
  refine ⟨U8 t.l, ⟨U8_len _, fun q hq => by rw [hg q hq, U8_get _ _ hq]⟩, ?_⟩
  (repeat first | (refine And.intro ?_ ?_; first | exact rfl | ((exact fun h => absurd h (by first | decide)); intro yy; clear yy) | (rotate_left; (exact fun h => absurd h (by first | decide)); intro yy; clear yy) | decide | omega) | (with_reducible refine frc_bytesL (by first | omega | decide) ?_) | (with_reducible refine frc_bytesM (by first | omega | decide) ?_))
  refine call_lend [1] 0 [] rfl rfl (by (repeat first | exact trivial | refine ent1 ?_)) NoP.nil (fun _ _ => trivial) (fun W' ms' α hL' hI => ⟨[.c (.slc (some ((α 1).add (0 + 0))) n c')], ?_, (fn_bencoded (hrow2.frz (F := fun j => memB j [1]) hL' (hI 1 rfl) hrl hc' (by omega)) hgood (by omega)).mono (Res' := fun y hs => ∃ c5, (encB row).length ≤ c5 ∧ y = .a (.c (.sl 1 0 0 (encB row).length c5)) ∧ hs.drop 1 = [lsC (encB row) c5]) (fun x hs hr => ?_)⟩) (fun x hs hr => ?_) ?_
  · (repeat first | exact trivial | refine ent1 ?_)
  · obtain ⟨c5, h5, rfl, rfl⟩ := hr
    exact ⟨c5, h5, rfl, rfl⟩
  · obtain ⟨c5, _, _, h1⟩ := hr
    rw [h1]
    exact NoP.cons (fun W ms h => by cases h) NoP.nil
  rintro x hs ⟨c5, hc5, rfl, hdrop⟩
  rw [hdrop]
  (repeat first | (refine And.intro ?_ ?_; first | exact rfl | ((exact fun h => absurd h (by first | decide)); intro yy; clear yy) | (rotate_left; (exact fun h => absurd h (by first | decide)); intro yy; clear yy) | decide | omega) | (with_reducible refine frc_bytesL (by first | omega | decide) ?_) | (with_reducible refine frc_bytesM (by first | omega | decide) ?_))
  refine And.intro (show 0 + (encB row).length ≤ c5 by omega) ?_
  refine ⟨U8 (encB row), ⟨U8_len _, fun q hq => ?_⟩, ?_⟩
  · show SC.mp _ (bytesF _ _ (q + 0)) = _
    rw [Nat.add_zero, bytesF_lt hq, U8_get _ _ hq]; rfl
  have hcmp : decide (U8 t.l = U8 (encB row)) = true := decide_eq_true (by rw [htl])
  (repeat first | (refine And.intro ?_ ?_; first | exact rfl | ((exact fun h => absurd h (by first | decide | (rw [hcmp]; decide))); intro yy; clear yy) | (rotate_left; (exact fun h => absurd h (by first | decide | (rw [hcmp]; decide))); intro yy; clear yy) | decide | omega) | (with_reducible refine frc_bytesL (by first | omega | decide) ?_) | (with_reducible refine frc_bytesM (by first | omega | decide) ?_))
  refine call_lend [1] 0 [] rfl rfl (by (repeat first | exact trivial | refine ent1 ?_)) NoP.nil (fun _ _ => trivial) (fun W' ms' α hL' hI => ⟨[.c (.slc a2 n2 c2), .c (.slc (some ((α 1).add (0 + 0))) n c')], ?_, (fn_bsame (hE2.later hL') (hrow2.frz (F := fun j => memB j [1]) hL' (hI 1 rfl) hrl hc' (by omega))).mono (Res' := fun y hs => y = .a (.c (.bool true)) ∧ hs.drop 1 = []) (fun x hs hr => ?_)⟩) (fun x hs hr => ?_) ?_
  · (repeat first | exact trivial | refine ent1 ?_)
  · obtain ⟨⟨r, hr, rfl⟩, rfl⟩ := hr
    have hr1 : r = true := hr.2 rfl
    subst hr1
    exact ⟨rfl, rfl⟩
  · rw [hr.2]; exact NoP.nil
  rintro x hs ⟨rfl, hdrop2⟩
  rw [hdrop2]
  (repeat first | (refine And.intro ?_ ?_; first | exact rfl | ((exact fun h => absurd h (by first | decide | (rw [hcmp]; decide))); intro yy; clear yy) | (rotate_left; (exact fun h => absurd h (by first | decide | (rw [hcmp]; decide))); intro yy; clear yy) | decide | omega) | (with_reducible refine frc_bytesL (by first | omega | decide) ?_) | (with_reducible refine frc_bytesM (by first | omega | decide) ?_))
  refine ⟨.a (.c (.bool true)), [[.past W2 ms2]], ⟨[0], ⟨rfl, rfl, rfl⟩, ?_⟩, W2, ms2, rfl, rfl⟩
  (repeat first | exact trivial | refine ent1 ?_)
end Sx
end Go.Proofs.Ytdakmieapdpidaa
end

section
/-
  The law BlogBytes, some events, cut. No condition.
-/
namespace Go.Proofs.Ytdakmieapdpidaa
set_option linter.unusedVariables false
namespace Sx
open Go.RowKit Sha Vi Ev

theorem RowAt.frzF {W0 W : World} {ms0 ms : List Nat} {A : Addr} {F : Nat → Bool} {α : Nat → Addr} {n c : Nat} {cs : List SC} {es : List Ev} (k : RowAt W0 ms0 cs es) (hL : Later W0 ms0 W ms) {f : Nat → SC} (hf : ∀ j, j < cs.length → f j = nthC cs j)
    (h : flat [.row (scale c (3 + 1)) f] ≠ [] → ImAt W ms A (((flat [.row (scale c (3 + 1)) f]).map (SC.rz F α)).map SC.raw)) (hn : es.length = n) (hc : n ≤ c) (hcap : n ≤ 9223372036854775807) : EvsAt W ms (some (A.add (0 + 0))) n c es := by
  refine ⟨hn, hc, hcap, (fun e => by cases e), fun B hB j e he => ?_⟩
  injection hB with hB
  subst hB
  obtain ⟨x, h1, h2⟩ := k.elt j e he
  have hj : j < n := by rw [← hn]; exact (List.getElem?_eq_some_iff.1 he).1
  have hne : flat [.row (scale c (3 + 1)) f] ≠ [] := by
    intro e
    have := congrArg List.length e
    simp [flat, sc4] at this
    omega
  refine ⟨x, (((h hne).part (0 + 0) (m := ((flat [.row (scale c (3 + 1)) f]).map (SC.rz F α)).map SC.raw) (fun j x hx => by simpa using hx)).part (j * 4) fun i y hy => ?_), h2.later hL⟩
  have hi : i < 4 := (List.getElem?_eq_some_iff.1 hy).1
  have hcs := h1 i y hy
  have hlen := k.len
  have hjn : j * 4 + i < scale c (3 + 1) := by rw [sc4]; omega
  rw [List.getElem?_map, List.getElem?_map]
  simp only [flat, List.append_nil, List.getElem?_map, List.getElem?_range hjn, Option.map_some]
  have hraw := k.raw y (List.mem_of_getElem? hcs)
  rw [hf _ (List.getElem?_eq_some_iff.1 hcs).1, nthC_get? hcs, rz_raw hraw]
set_option maxRecDepth 20000 in
set_option maxHeartbeats 16000000 in
theorem fn_blogBytes2 {W : World} {ms : List Nat} {a : Option Addr} {n c : Nat} {es : List Ev} (h : EvsAt W ms a n c es) {aK : Option Addr} {nK cK : Nat} {ks : Bs} (hK : BsAt W ms aK nK cK ks) (hL : lightE es = true) (hn : 0 < n) :
    FnR Try.prog tds 5 1 [[.past W ms]] [.c (.slc a n c), .c (.slc aK nK cK), .c (.bool true)] (fun _ => True)
    (fun y hs => ∃ W' ms', y = .a (.c (.bool true)) ∧ hs = [[.past W' ms']]) := by
  have hlen := h.len
  have hl2 : (∀ e ∈ es, e.N.length ≤ 30 ∧ e.D.length ≤ 100) ∧ es.length ≤ 60 := by
    unfold lightE at hL
    rw [Bool.and_eq_true] at hL
    exact ⟨of_decide_eq_true hL.1, of_decide_eq_true hL.2⟩
  refine fn_of_body tds_ok follows_ Try.func5 rfl (t := .a (.c (.slc a n c)) :: .a (.c (.slc aK nK cK)) :: .a (.c (.bool true)) :: anys (Try.f5.ntmps - 3)) rfl (fun w r0 hr _ => ?_)
  obtain ⟨x0, rfl⟩ := List.length_eq_one_iff.1 hr
  (repeat first | (refine And.intro ?_ ?_; first | exact rfl | ((exact fun h => absurd h (by first | decide)); intro yy; clear yy) | (rotate_left; (exact fun h => absurd h (by first | decide)); intro yy; clear yy) | decide | omega) | (with_reducible refine frc_bytesL (by first | omega | decide) ?_) | (with_reducible refine frc_bytesM (by first | omega | decide) ?_))
  refine call_same (fn_bawake (W := W) (ms := ms)) [0] rfl (by (repeat first | exact trivial | refine ent1 ?_)) (by (repeat first | exact trivial | refine ent1 ?_)) (fun _ _ => trivial) ?_
  rintro x hs' ⟨rfl, rfl⟩
  (repeat first | (refine And.intro ?_ ?_; first | exact rfl | ((exact fun h => absurd h (by first | decide)); intro yy; clear yy) | (rotate_left; (exact fun h => absurd h (by first | decide)); intro yy; clear yy) | decide | omega) | (with_reducible refine frc_bytesL (by first | omega | decide) ?_) | (with_reducible refine frc_bytesM (by first | omega | decide) ?_))
  refine call_same (fn_light h) [0] rfl (by (repeat first | exact trivial | refine ent1 ?_)) (by (repeat first | exact trivial | refine ent1 ?_)) (fun _ _ => trivial) ?_
  rintro x hs' ⟨rfl, rfl⟩
  rw [hL]
  (repeat first | (refine And.intro ?_ ?_; first | exact rfl | ((exact fun h => absurd h (by first | decide)); intro yy; clear yy) | (rotate_left; (exact fun h => absurd h (by first | decide)); intro yy; clear yy) | decide | omega) | (with_reducible refine frc_bytesL (by first | omega | decide) ?_) | (with_reducible refine frc_bytesM (by first | omega | decide) ?_))
  refine call_past (fn_erow h hK hl2.1 (by omega) hn) 0 [] rfl rfl (by (repeat first | exact trivial | refine ent1 ?_)) (by (repeat first | exact trivial | refine ent1 ?_)) (fun _ _ => trivial) (fun x hs hr => ?_) ?_
  · obtain ⟨W', ms', cs, c', h1, _, _, _, rfl⟩ := hr
    exact ⟨W', ms', rfl, h1⟩
  rintro y hs' ⟨W1, ms1, cs, c', hL1, hrow, hc', rfl, rfl⟩
  obtain ⟨row, hrw⟩ : ∃ row, rowE ks es 0 0#64 = row := ⟨_, rfl⟩
  have hrl : row.length = n := by rw [← hrw, rowE_len, hlen]
  have hg0 := row_good ks es 0 0#64 (by decide)
  rw [hrw] at hrow hg0
  obtain ⟨z, hz⟩ : ∃ z, row[n - 1]? = some z := ⟨_, List.getElem?_eq_getElem (by omega)⟩
  obtain ⟨zx, hzc, _⟩ := hrow.elt (n - 1) z hz
  have hzt : cs[(n - 1) * 4 + 1]? = some (.w64 z.t) := hzc 1 _ rfl
  have kn : decide ((0 : Int) < (n : Int)) = true := decide_eq_true (by omega)
  (repeat first | (refine And.intro ?_ ?_; first | exact rfl | ((exact fun h => absurd h (by first | decide | (rw [kn]; decide))); intro yy; clear yy) | (rotate_left; (exact fun h => absurd h (by first | decide | (rw [kn]; decide))); intro yy; clear yy) | decide | omega) | (with_reducible refine frc_bytesL (by first | omega | decide) ?_) | (with_reducible refine frc_bytesM (by first | omega | decide) ?_))
  rw [mp_row hrow.raw]
  refine And.intro (show ((n : Int) - 1).toNat * 4 + 1 < scale c' (3 + 1) by rw [sc4]; omega) ?_
  refine frc_eq (y := .w64 z.t) (by rw [show ((n : Int) - 1).toNat * 4 + 1 = (n - 1) * 4 + 1 by omega]; exact nthC_get? hzt) ?_
  (repeat first | (refine And.intro ?_ ?_; first | exact rfl | ((exact fun h => absurd h (by first | decide)); intro yy; clear yy) | (rotate_left; (exact fun h => absurd h (by first | decide)); intro yy; clear yy) | decide | omega) | (with_reducible refine frc_bytesL (by first | omega | decide) ?_) | (with_reducible refine frc_bytesM (by first | omega | decide) ?_))
  refine And.intro (show 0 + 4 ≤ 4 by decide) ?_
  refine And.intro (show 0 + scale 1 (3 + 1) ≤ 4 by decide) ?_
  refine And.intro ⟨hc', by first | omega | (rw [sc4]; omega), show (n + 1) * 64 ≤ 140737488355328 by omega⟩ ?_
  intro cA hcA
  (repeat first | (refine And.intro ?_ ?_; first | exact rfl | ((exact fun h => absurd h (by first | decide)); intro yy; clear yy) | (rotate_left; (exact fun h => absurd h (by first | decide)); intro yy; clear yy) | decide | omega) | (with_reducible refine frc_bytesL (by first | omega | decide) ?_) | (with_reducible refine frc_bytesM (by first | omega | decide) ?_))
  obtain ⟨rowX, hrX⟩ : ∃ rowX, rowX = row ++ [⟨19#8, z.t, [], []⟩] := ⟨_, rfl⟩
  have hrowX : RowAt W1 ms1 (cs ++ flat (evS ⟨19#8, z.t, [], []⟩ ⟨none, 0, 0, none, 0, 0⟩)) rowX := by rw [hrX]; exact hrow.snoc ⟨SlAt.nul, SlAt.nul⟩
  have hrl2 : rowX.length = n + 1 := by rw [hrX, List.length_append, hrl]; rfl
  have hzl : row.getLast? = some z := by rw [List.getLast?_eq_getElem?, hrl]; exact hz
  have hzt2 := good_last hg0.1 hzl
  have hgood : GoodL 0#64 rowX := by
    rw [hrX]
    refine GoodL.snoc hg0.1 hg0.2 ?_
    rw [hzl]
    exact ⟨rfl, Nat.le_refl _, hzt2, rfl, fun n hn => (by cases hn), Nat.zero_le _, fun _ => rfl⟩
  have henc := enc_of (es := rowX) (by omega) hgood
  refine call_lend [3] 0 [] rfl rfl (by (repeat first | exact trivial | refine ent1 ?_)) NoP.nil (fun _ _ => trivial) (fun W' ms' α hL' hI => ⟨[.c (.slc (some ((α 3).add (0 + 0))) (n + 1) cA)], ?_, (fn_bencode (hrowX.frzF (F := fun j => memB j [3]) hL' (by exact fun j hj => app_cs (by rw [hrow.len, hrl]) (fun _ _ => rfl) rfl (fun j hj => updN_new hj) j hj) (hI 3 rfl) hrl2 hcA (by omega))).mono (Res' := fun y hs => ∃ (t : Sl), t.l = encB rowX ∧ t.Ok ∧ y = .tup [.c (svC 1 t), .c (.int .i64 0)] ∧ hs.drop 1 = [svB t]) (fun x hs hr => ?_)⟩) (fun x hs hr => ?_) ?_
  · (repeat first | exact trivial | refine ent1 ?_)
  · obtain ⟨t, e, hM, ht, rfl, rfl⟩ := hr.2 (by omega)
    rw [henc] at hM
    simp only [Prod.mk.injEq] at hM
    obtain ⟨h1, rfl⟩ := hM
    exact ⟨t, h1.symm, ht, rfl, rfl⟩
  · obtain ⟨t, _, _, _, h1⟩ := hr
    rw [h1]
    exact NoP.cons (fun W ms => bts_ne _ _ _ _ _ W ms) NoP.nil
  rintro x hs ⟨t, htl, ht, rfl, hdrop⟩
  rw [hdrop]
  (repeat first | (refine And.intro ?_ ?_; first | exact rfl | ((exact fun h => absurd h (by first | decide)); intro yy; clear yy) | (rotate_left; (exact fun h => absurd h (by first | decide)); intro yy; clear yy) | decide | omega) | (with_reducible refine frc_bytesL (by first | omega | decide) ?_) | (with_reducible refine frc_bytesM (by first | omega | decide) ?_))
  have hdec := dec_enc (show encM rowX = (encB rowX, 0) from henc)
  refine call_past (fn_bdecode (W := W1) (ms := ms1) t ht) 0 [4] rfl rfl (by (repeat first | exact trivial | refine ent1 ?_)) ?_ (fun _ _ => trivial) (fun x hs hr => ?_) ?_
  · (repeat first | exact trivial | refine ent1 ?_)
    first | refine eqC_btsM ?_ | refine eqC_bts ?_
    (repeat first | exact trivial | refine ent1 ?_)
  · obtain ⟨es2, a2, n2, c2, e2, W2, ms2, _, hL2, _, _, rfl⟩ := hr
    exact ⟨W2, ms2, rfl, hL2⟩
  rintro y hs' ⟨es2, a2, n2, c2, e2, W2, ms2, hD2, hL2, hE2, rfl, rfl⟩
  rw [htl, hdec] at hD2
  obtain ⟨rfl, rfl⟩ : rowX = es2 ∧ 0 = e2 := by simp only [Prod.mk.injEq] at hD2; exact hD2
  have hrow2 := hrowX.later hL2
  (repeat first | (refine And.intro ?_ ?_; first | exact rfl | ((exact fun h => absurd h (by first | decide)); intro yy; clear yy) | (rotate_left; (exact fun h => absurd h (by first | decide)); intro yy; clear yy) | decide | omega) | (with_reducible refine frc_bytesL (by first | omega | decide) ?_) | (with_reducible refine frc_bytesM (by first | omega | decide) ?_))
  refine ⟨none, [], [(0, true), (1, true), (2, true), (3, true), (4, true), (5, true), (6, true), (7, true), (8, true), (9, true), (10, false), (11, true), (12, true), (13, true), (14, true), (15, true), (16, true), (17, false), (18, true), (19, true)], [], by kernel_rfl, ?_⟩
  (repeat first | (refine And.intro ?_ ?_; first | exact rfl | ((exact fun h => absurd h (by first | decide)); intro yy; clear yy) | (rotate_left; (exact fun h => absurd h (by first | decide)); intro yy; clear yy) | decide | omega) | (with_reducible refine frc_bytesL (by first | omega | decide) ?_) | (with_reducible refine frc_bytesM (by first | omega | decide) ?_))
  refine sn_btsM rfl ht.fit (fun h => by rw [ht.nil h]; rfl) (fun g hg => ?_)
  refine ⟨U8 t.l, ⟨U8_len _, fun q hq => by rw [hg q hq, U8_get _ _ hq]⟩, ?_⟩
  (repeat first | (refine And.intro ?_ ?_; first | exact rfl | ((exact fun h => absurd h (by first | decide)); intro yy; clear yy) | (rotate_left; (exact fun h => absurd h (by first | decide)); intro yy; clear yy) | decide | omega) | (with_reducible refine frc_bytesL (by first | omega | decide) ?_) | (with_reducible refine frc_bytesM (by first | omega | decide) ?_))
  refine call_lend [3] 0 [] rfl rfl (by (repeat first | exact trivial | refine ent1 ?_)) NoP.nil (fun _ _ => trivial) (fun W' ms' α hL' hI => ⟨[.c (.slc (some ((α 3).add (0 + 0))) (n + 1) cA)], ?_, (fn_bencoded (hrow2.frzF (F := fun j => memB j [3]) hL' (by exact fun j hj => app_cs (by rw [hrow.len, hrl]) (fun _ _ => rfl) rfl (fun j hj => updN_new hj) j hj) (hI 3 rfl) hrl2 hcA (by omega)) hgood (by omega)).mono (Res' := fun y hs => ∃ c5, (encB rowX).length ≤ c5 ∧ y = .a (.c (.sl 1 0 0 (encB rowX).length c5)) ∧ hs.drop 1 = [lsC (encB rowX) c5]) (fun x hs hr => ?_)⟩) (fun x hs hr => ?_) ?_
  · (repeat first | exact trivial | refine ent1 ?_)
  · obtain ⟨c5, h5, rfl, rfl⟩ := hr
    exact ⟨c5, h5, rfl, rfl⟩
  · obtain ⟨c5, _, _, h1⟩ := hr
    rw [h1]
    exact NoP.cons (fun W ms h => by cases h) NoP.nil
  rintro x hs ⟨c5, hc5, rfl, hdrop⟩
  rw [hdrop]
  (repeat first | (refine And.intro ?_ ?_; first | exact rfl | ((exact fun h => absurd h (by first | decide)); intro yy; clear yy) | (rotate_left; (exact fun h => absurd h (by first | decide)); intro yy; clear yy) | decide | omega) | (with_reducible refine frc_bytesL (by first | omega | decide) ?_) | (with_reducible refine frc_bytesM (by first | omega | decide) ?_))
  refine And.intro (show 0 + (encB rowX).length ≤ c5 by omega) ?_
  refine ⟨U8 (encB rowX), ⟨U8_len _, fun q hq => ?_⟩, ?_⟩
  · show SC.mp _ (bytesF _ _ (q + 0)) = _
    rw [Nat.add_zero, bytesF_lt hq, U8_get _ _ hq]; rfl
  have hcmp : decide (U8 t.l = U8 (encB rowX)) = true := decide_eq_true (by rw [htl])
  (repeat first | (refine And.intro ?_ ?_; first | exact rfl | ((exact fun h => absurd h (by first | decide | (rw [hcmp]; decide))); intro yy; clear yy) | (rotate_left; (exact fun h => absurd h (by first | decide | (rw [hcmp]; decide))); intro yy; clear yy) | decide | omega) | (with_reducible refine frc_bytesL (by first | omega | decide) ?_) | (with_reducible refine frc_bytesM (by first | omega | decide) ?_))
  refine call_lend [3] 0 [] rfl rfl (by (repeat first | exact trivial | refine ent1 ?_)) NoP.nil (fun _ _ => trivial) (fun W' ms' α hL' hI => ⟨[.c (.slc a2 n2 c2), .c (.slc (some ((α 3).add (0 + 0))) (n + 1) cA)], ?_, (fn_bsame (hE2.later hL') (hrow2.frzF (F := fun j => memB j [3]) hL' (by exact fun j hj => app_cs (by rw [hrow.len, hrl]) (fun _ _ => rfl) rfl (fun j hj => updN_new hj) j hj) (hI 3 rfl) hrl2 hcA (by omega))).mono (Res' := fun y hs => y = .a (.c (.bool true)) ∧ hs.drop 1 = []) (fun x hs hr => ?_)⟩) (fun x hs hr => ?_) ?_
  · (repeat first | exact trivial | refine ent1 ?_)
  · obtain ⟨⟨r, hr, rfl⟩, rfl⟩ := hr
    have hr1 : r = true := hr.2 rfl
    subst hr1
    exact ⟨rfl, rfl⟩
  · rw [hr.2]; exact NoP.nil
  rintro x hs ⟨rfl, hdrop2⟩
  rw [hdrop2]
  (repeat first | (refine And.intro ?_ ?_; first | exact rfl | ((exact fun h => absurd h (by first | decide | (rw [hcmp]; decide))); intro yy; clear yy) | (rotate_left; (exact fun h => absurd h (by first | decide | (rw [hcmp]; decide))); intro yy; clear yy) | decide | omega) | (with_reducible refine frc_bytesL (by first | omega | decide) ?_) | (with_reducible refine frc_bytesM (by first | omega | decide) ?_))
  refine ⟨.a (.c (.bool true)), [[.past W2 ms2]], ⟨[0], ⟨rfl, rfl, rfl⟩, ?_⟩, W2, ms2, rfl, rfl⟩
  (repeat first | exact trivial | refine ent1 ?_)
end Sx
end Go.Proofs.Ytdakmieapdpidaa
end

section
/-
  The law BlogBytes, any events. No condition.
-/
namespace Go.Proofs.Ytdakmieapdpidaa
set_option linter.unusedVariables false
namespace Sx
open Go.RowKit Sha Vi Ev

set_option maxRecDepth 20000 in
theorem fn_blogBytesH {W : World} {ms : List Nat} {a : Option Addr} {n c : Nat} {es : List Ev} (h : EvsAt W ms a n c es) {aK : Option Addr} {nK cK : Nat} (cut : Bool) (hL : lightE es = false) :
    FnR Try.prog tds 5 1 [[.past W ms]] [.c (.slc a n c), .c (.slc aK nK cK), .c (.bool cut)] (fun _ => True)
    (fun y hs => ∃ W' ms', y = .a (.c (.bool true)) ∧ hs = [[.past W' ms']]) := by
  refine fn_of_body tds_ok follows_ Try.func5 rfl (t := .a (.c (.slc a n c)) :: .a (.c (.slc aK nK cK)) :: .a (.c (.bool cut)) :: anys (Try.f5.ntmps - 3)) rfl (fun w r0 hr _ => ?_)
  obtain ⟨x0, rfl⟩ := List.length_eq_one_iff.1 hr
  (repeat first | (refine And.intro ?_ ?_; first | exact rfl | ((exact fun h => absurd h (by first | decide)); intro yy; clear yy) | (rotate_left; (exact fun h => absurd h (by first | decide)); intro yy; clear yy) | decide | omega) | (with_reducible refine frc_bytesL (by first | omega | decide) ?_) | (with_reducible refine frc_bytesM (by first | omega | decide) ?_))
  refine call_same (fn_bawake (W := W) (ms := ms)) [0] rfl (by (repeat first | exact trivial | refine ent1 ?_)) (by (repeat first | exact trivial | refine ent1 ?_)) (fun _ _ => trivial) ?_
  rintro x hs' ⟨rfl, rfl⟩
  (repeat first | (refine And.intro ?_ ?_; first | exact rfl | ((exact fun h => absurd h (by first | decide)); intro yy; clear yy) | (rotate_left; (exact fun h => absurd h (by first | decide)); intro yy; clear yy) | decide | omega) | (with_reducible refine frc_bytesL (by first | omega | decide) ?_) | (with_reducible refine frc_bytesM (by first | omega | decide) ?_))
  refine call_same (fn_light h) [0] rfl (by (repeat first | exact trivial | refine ent1 ?_)) (by (repeat first | exact trivial | refine ent1 ?_)) (fun _ _ => trivial) ?_
  rintro x hs' ⟨rfl, rfl⟩
  rw [hL]
  (repeat first | (refine And.intro ?_ ?_; first | exact rfl | ((exact fun h => absurd h (by first | decide)); intro yy; clear yy) | (rotate_left; (exact fun h => absurd h (by first | decide)); intro yy; clear yy) | decide | omega) | (with_reducible refine frc_bytesL (by first | omega | decide) ?_) | (with_reducible refine frc_bytesM (by first | omega | decide) ?_))
  refine ⟨.a (.c (.bool true)), [[.past W ms]], ⟨[0], ⟨rfl, rfl, rfl⟩, ?_⟩, W, ms, rfl, rfl⟩
  (repeat first | exact trivial | refine ent1 ?_)
theorem fn_blogBytes {W : World} {ms : List Nat} {a : Option Addr} {n c : Nat} {es : List Ev} (h : EvsAt W ms a n c es) {aK : Option Addr} {nK cK : Nat} {ks : Bs} (hK : BsAt W ms aK nK cK ks) (cut : Bool) :
    FnR Try.prog tds 5 1 [[.past W ms]] [.c (.slc a n c), .c (.slc aK nK cK), .c (.bool cut)] (fun _ => True)
    (fun y hs => ∃ W' ms', y = .a (.c (.bool true)) ∧ hs = [[.past W' ms']]) := by
  cases hL : lightE es with
  | false => exact fn_blogBytesH h cut hL
  | true =>
    rcases Nat.eq_zero_or_pos n with hn | hn
    · exact fn_blogBytes0 h hK cut hn
    · cases cut
      · exact fn_blogBytes1 h hK hL hn
      · exact fn_blogBytes2 h hK hL hn
end Sx
end Go.Proofs.Ytdakmieapdpidaa
end

section
/-
  From a function over blocks to a law's walk: arguments opened. Over any program. No condition of its own.
-/
namespace Go.Proofs.Ytdakmieapdpidaa
set_option linter.unusedVariables false
namespace Sx
open Go.RowKit Go.ChangeShapes Go.WideShapes

section
variable {H : Type} {enc : TypeId × Value → H} {P : Program} {w : World} {base : Nat} {sp : Nat → Bool} {held : Bool}
theorem wf_w8 {a : Int} (h : (Lit.int .u8 a).wf = true) : a = ((BitVec.ofInt 8 a).toNat : Int) := by
  have := bounds_u8 h
  rw [BitVec.toNat_ofInt]
  omega
end
theorem isAs_nil (r : Rho) : IsAs r [] [] := ⟨rfl, fun j x e => by simp at e⟩
theorem isAs_cons {r : Rho} {x : SA} {v : Value} {l : List SA} {vs : List Value} (h : SA.Is r x v) (hs : IsAs r l vs) : IsAs r (x :: l) (v :: vs) :=
  ⟨by simpa using hs.1, fun j y e => by
    cases j with
    | zero => simp at e; subst e; exact ⟨v, rfl, h⟩
    | succ j => exact hs.2 j y e⟩
/-- A law's walk. -/
theorem Fn.law {P : Program} {T : List (Nat × TD)} {f : FuncId} {args : List SA} {raw : World → Prop} (h : Fn P T f [] args raw (fun x hs => x = .a (.c (.bool true)) ∧ hs = [])) {w : World} {vs : List Value} (ha : IsAs [] args vs) (hr : raw w) :
    Calls P f vs.toArray w fun e w' => e = .returned (.bool true) ∧ Below w.heap.size w w' := by
  refine (Fn.calls h ha hr).mono ?_
  rintro e w' ⟨v, x, hs, r', rfl, hx, hok, rfl, rfl⟩
  obtain rfl : v = .bool true := hx
  exact ⟨rfl, hok.ext.below0⟩
end Sx
end Go.Proofs.Ytdakmieapdpidaa
end

section
/-
  Numbers of sixteen bits as arguments. Over any program. No condition of its own.
-/
namespace Go.Proofs.Ytdakmieapdpidaa
set_option linter.unusedVariables false
namespace Sx
open Go.ChangeShapes

theorem wf_w64 {a : Int} (h : (Lit.int .u64 a).wf = true) : a = ((BitVec.ofInt 64 a).toNat : Int) := by
  have := bounds_u64 h
  rw [BitVec.toNat_ofInt]
  omega
end Sx
end Go.Proofs.Ytdakmieapdpidaa
end

section
/-
  From a function over blocks that are only read to a law's walk: slices of bytes that came in. Over any program. No condition of its own.
-/
namespace Go.Proofs.Ytdakmieapdpidaa
set_option linter.unusedVariables false
namespace Sx
open Go.RowKit Go.ChangeShapes Go.WideShapes Sha

theorem okWide_spot {P : Program} {w : World} {r : Reach} {b0 : Nat} {t e : TypeId} {a : Option Addr} {n c : Nat} (ht : P.underlying t = some (.slice e)) (h : Value.okWide P w r b0 t (.slice a n c)) : ∀ x, a = some x → x.spot = none := by
  rintro x rfl
  simp only [Value.okWide, ht, Cell.okWide, Cell.ok] at h
  exact h.2.2.2.1
/-- A slice of bytes that came in: nil (z) or not, its bytes, where they lie. -/
structure InB (w : World) (a : Option Addr) (n c : Nat) (z : Bool) (l : Bs) (B f : Nat) : Prop where
  len : l.length = n
  le : n ≤ c
  cap : c ≤ maxLen
  nil : z = true → l = []
  val : ∀ (r : Rho) (i : Nat), r[i]? = some (B, f) → SC.Is r (.sn z i 0 0 n c) (.slice a n c)
  at_ : ∀ r : Rho, At false r w B f (flat (bts z n 0 n (L l)))
theorem open_b8 {w : World} {a : Option Addr} {len cap : Nat} {zs : List Int} (h : IsRow .u8 w a len cap zs) (hs : ∀ x, a = some x → x.spot = none) : ∃ z l B f, InB w a len cap z l B f := by
  rcases h with ⟨rfl, rfl, rfl, rfl⟩ | ⟨x, rfl, hl, hm, hz, hc, hw⟩
  · exact ⟨true, [], 0, 0, rfl, Nat.le_refl _, by unfold maxLen; omega, fun _ => rfl, fun r i _ => .inl ⟨rfl, rfl, rfl, rfl⟩, fun r j y e => by simp [bts, flat] at e⟩
  · obtain ⟨B, f, spot⟩ := x
    obtain rfl : spot = none := hs _ rfl
    refine ⟨false, (zs.take len).map (BitVec.ofInt 8), B, f, by simp; omega, hl, hm, fun h => Bool.noConfusion h, fun r i hr => .inr (.inl ⟨rfl, B, f, hr, rfl⟩), fun r j y e => ?_⟩
    have hj : j < len := by
      rcases Nat.lt_or_ge j len with h | h
      · exact h
      · rw [List.getElem?_eq_none (by simpa [bts, flat] using h)] at e; cases e
    have e2 : y = .w8 (L ((zs.take len).map (BitVec.ofInt 8)) j) := by
      simp only [bts, flat, List.append_nil, List.getElem?_map, Option.map_eq_some_iff] at e
      obtain ⟨i, hi, rfl⟩ := e
      rw [List.getElem?_range (by omega)] at hi
      injection hi with hi
      subst hi
      have := winF_at 0 len (L ((zs.take len).map (BitVec.ofInt 8))) hj
      rwa [Nat.zero_add] at this
    subst e2
    have hc1 := hc j (by omega)
    have ha : (⟨B, f, none⟩ : Addr).add j = ⟨B, f + j, none⟩ := by unfold Addr.add; simp
    rw [ha] at hc1
    refine ⟨_, hc1, ?_, fun h => Bool.noConfusion h⟩
    show Value.int .u8 _ = Value.int .u8 _
    congr 1
    have hjz : j < zs.length := by omega
    have h3 : zs.getD j 0 = zs[j] := by rw [List.getD_eq_getElem?_getD, List.getElem?_eq_getElem hjz]; rfl
    have h4 : L ((zs.take len).map (BitVec.ofInt 8)) j = BitVec.ofInt 8 zs[j] := by
      rw [L_lt (by simp; omega)]
      simp
    rw [h3, h4]
    exact wf_w8 (hw _ (List.getElem_mem _))
/-- The blocks lie where r says. -/
def AllAt (R : Rho) (w : World) : List (List Seg) → Rho → Prop
  | [], [] => True
  | ch :: h, (B, f) :: r => At false R w B f (flat ch) ∧ AllAt R w h r
  | _, _ => False
theorem AllAt.len {R : Rho} {w : World} : ∀ {h : List (List Seg)} {r : Rho}, AllAt R w h r → r.length = h.length
  | [], [], _ => rfl
  | _ :: h, _ :: r, k => by rw [List.length_cons, List.length_cons, AllAt.len k.2]
  | [], _ :: _, k => k.elim
  | _ :: _, [], k => k.elim
theorem AllAt.get {R : Rho} {w : World} : ∀ {h : List (List Seg)} {r : Rho}, AllAt R w h r → ∀ (i : Nat) (ch : List Seg) (B f : Nat), h[i]? = some ch → r[i]? = some (B, f) → At false R w B f (flat ch)
  | [], [], _, i, _, _, _, e, _ => by simp at e
  | c :: h, (B', f') :: r, k, 0, _, _, _, e1, e2 => by
    simp at e1 e2
    obtain ⟨rfl, rfl⟩ := e2
    subst e1
    exact k.1
  | c :: h, (B', f') :: r, k, i + 1, _, _, _, e1, e2 => k.2.get i _ _ _ (by simpa using e1) (by simpa using e2)
theorem heapOk_ro {P : Program} {T : List (Nat × TD)} {w : World} {r0 : Rho} {h0 : List (List Seg)} (hat : AllAt r0 w h0 r0) (hp : ∀ (i : Nat) (W : World) (ms : List Nat), h0[i]? = some [.past W ms] → W = w) : HeapOk (cx0 P T w r0 h0.length h0) h0 r0 w := by
  have hlen := hat.len
  have hget : ∀ i, h0[i]? = some (getH h0 i) ∨ h0[i]? = none := fun i => by
    rcases Nat.lt_or_ge i h0.length with h | h
    · exact .inl (by rw [List.getElem?_eq_getElem h]; have := getH_eq h0 i; rw [List.getElem?_eq_getElem h] at this; simpa using this.symm)
    · exact .inr (List.getElem?_eq_none h)
  have out : ∀ (i : Nat) (x : Nat × Nat), h0.length ≤ i → r0[i]? = some x → False := fun i x hi e => by
    rw [List.getElem?_eq_none (by omega)] at e; cases e
  refine ⟨Ext.refl _ _, RLe.refl _, Nat.le_of_eq hlen.symm, hlen, fun i ch B f hi hr => ?_, fun i B f ho hr => (out i _ ho hr).elim, fun i B f ho hr => (out i _ ho hr).elim, fun i B f ho hl hr => ?_, fun i ch ho hl hi => ?_, fun i j B f f' ch ch' hij o1 o2 h1 h2 r1 r2 => (out i _ o1 r1).elim, fun i m B f ho _ hr => (out i _ ho hr).elim, fun i W ms hi => ?_⟩
  · have hil : i < h0.length := (List.getElem?_eq_some_iff.1 hi).1
    have : Nat.ble h0.length i = false := by
      cases e : Nat.ble h0.length i
      · rfl
      · have := ble_le e; omega
    show At (Nat.ble h0.length i) _ _ _ _ _
    rw [this]
    exact hat.get i ch B f hi hr
  · refine ⟨?_, ?_⟩
    · show B ∉ (r0.drop h0.length).map (·.1)
      rw [List.drop_eq_nil_of_le (by omega)]
      simp
    · rcases hget i with e | e
      · exact (hat.get i _ B f e hr).lt hl
      · rw [List.getElem?_eq_none_iff] at e
        exact (out i _ e hr).elim
  · have hl : ¬ flat (getH h0 i) ≠ [] := hl
    rcases hget i with e | e
    · rw [hi] at e
      injection e with e
      rw [e]
      exact Classical.not_not.1 hl
    · rw [hi] at e; cases e
  · obtain rfl := hp i W ms hi
    exact ⟨Ext.refl _ _, fun B _ h2 h3 => ⟨i, _, ms, hi, h2, h3⟩, fun j B f ho hr => (out j _ ho hr).elim⟩
def NoPast : List (List Seg) → Prop
  | [] => True
  | l :: r => (∀ W ms, l ≠ [.past W ms]) ∧ NoPast r
theorem NoPast.get {w : World} : ∀ {h : List (List Seg)}, NoPast h → ∀ (i : Nat) (W : World) (ms : List Nat), h[i]? = some [.past W ms] → W = w
  | [], _, i, _, _, e => by simp at e
  | l :: h, k, 0, W, ms, e => by simp at e; exact absurd e (k.1 W ms)
  | l :: h, k, i + 1, W, ms, e => NoPast.get k.2 i W ms (by simpa using e)
theorem bts_np (z : Bool) (N o n : Nat) (b : Nat → BitVec 8) (W : World) (ms : List Nat) : bts z N o n b ≠ [.past W ms] := by
  cases z <;> (intro e; simp [bts] at e)
/-- A law's walk: what came in is only read. -/
theorem FnR.law {P : Program} {T : List (Nat × TD)} {f : FuncId} {n : Nat} {h0 : List (List Seg)} {args : List SA} {raw : World → Prop} {w : World} {vs : List Value} {r0 : Rho} (h : FnR P T f n h0 args raw (fun x _ => x = .a (.c (.bool true)))) (hn : n = h0.length)
    (hat : AllAt r0 w h0 r0) (ha : IsAs r0 args vs) (hr : raw w) (hp : NoPast h0 := by (repeat' first | exact trivial | refine And.intro ?_ ?_ | exact Go.Proofs.Ytdakmieapdpidaa.Sx.bts_np _ _ _ _ _ | (intro W ms e; cases e))) :
    Calls P f vs.toArray w fun e w' => e = .returned (.bool true) ∧ Below w.heap.size w w' := by
  subst hn
  refine (h w r0 vs (heapOk_ro hat hp.get) ha hr).mono ?_
  rintro e w' ⟨v, x, hs, r', rfl, hx, hok, rfl⟩
  obtain rfl : v = .bool true := hx
  refine ⟨rfl, ?_⟩
  have e : Ext ((r0.drop h0.length).map (·.1)) w w' := hok.ext
  rw [List.drop_eq_nil_of_le (by rw [hat.len]; exact Nat.le_refl _)] at e
  exact e.below0
end Sx
end Go.Proofs.Ytdakmieapdpidaa
end

section
/-
  From a function over blocks to a law's walk: structs with slices of bytes that came in. Over any program. No condition of its own.
-/
namespace Go.Proofs.Ytdakmieapdpidaa
set_option linter.unusedVariables false
namespace Sx
open Go.RowKit Go.ChangeShapes Go.WideShapes Sha Vi

theorem isL_nil (r : Rho) : IsL r [] [] := ⟨rfl, fun j x e => by simp at e⟩
theorem isL_cons {r : Rho} {x : SC} {v : Value} {l : List SC} {vs : List Value} (h : x.Is r v) (hs : IsL r l vs) : IsL r (x :: l) (v :: vs) :=
  ⟨by simpa using hs.1, fun j y e => by
    cases j with
    | zero => simp at e; subst e; exact ⟨v, rfl, h⟩
    | succ j => exact hs.2 j y e⟩
/-- What slices of bytes keep to, however long. -/
structure Sl.Fit (s : Sl) : Prop where
  fit : s.o + s.l.length ≤ s.N
  cap : s.l.length ≤ s.c
  nil : s.z = true → s.l = []
theorem Sl.Fit.ok {s : Sl} (h : s.Fit) (hs : s.l.length ≤ 1000000) : s.Ok := ⟨h.fit, h.cap, h.nil, hs⟩
/-- A slice that came in. -/
abbrev slI (z : Bool) (c : Nat) (l : Bs) : Sl := ⟨z, l.length, 0, c, l⟩
theorem InB.fit {w : World} {a : Option Addr} {n c : Nat} {z : Bool} {l : Bs} {B f : Nat} (h : InB w a n c z l B f) : (slI z c l).Fit :=
  ⟨by simp, by have := h.len; have := h.le; show l.length ≤ c; omega, h.nil⟩
end Sx
end Go.Proofs.Ytdakmieapdpidaa
end

section
/-
  A law whose arguments are raw; events as arguments, opened. No condition.
-/
namespace Go.Proofs.Ytdakmieapdpidaa
set_option linter.unusedVariables false
namespace Sx
open Go.RowKit Go.ChangeShapes Go.WideShapes Sha Vi Ev

theorem FnR.lawP {P : Program} {T : List (Nat × TD)} {f : FuncId} {args : List SA} {w : World} {vs : List Value} (h : FnR P T f 1 [[.past w []]] args (fun _ => True) (fun x _ => x = .a (.c (.bool true))))
    (ha : IsAs [(0, 0)] args vs) : Calls P f vs.toArray w fun e w' => e = .returned (.bool true) ∧ Below w.heap.size w w' := by
  have hat : AllAt [(0, 0)] w [[.past w []]] [(0, 0)] := ⟨fun j x e => by simp [flat] at e, trivial⟩
  refine (h w [(0, 0)] vs (heapOk_ro hat (fun i W ms e => ?_)) ha trivial).mono ?_
  · cases i with
    | zero => simp at e; exact e.1.symm
    | succ i => simp at e
  · rintro e w' ⟨v, x, hs, r', rfl, hx, hok, rfl⟩
    obtain rfl : v = .bool true := hx
    refine ⟨rfl, ?_⟩
    have e : Ext (([((0 : Nat), (0 : Nat))].drop 1).map (·.1)) w w' := hok.ext
    exact e.below0
theorem cell_block {w : World} {a : Addr} {v : Value} (h : w.cell? a = some v) : a.block < w.heap.size := by
  unfold World.cell? at h
  rcases Nat.lt_or_ge a.block w.heap.size with hb | hb
  · exact hb
  · rw [Array.getElem?_eq_none hb] at h; cases h
theorem row_bs {w : World} {a : Option Addr} {n c : Nat} {zs : List Int} (h : IsRow .u8 w a n c zs) (hs : ∀ x, a = some x → x.spot = none) : ∃ l : Bs, BsAt w [] a n c l := by
  obtain ⟨z, l, B, f, hI⟩ := open_b8 h hs
  rcases h with ⟨rfl, rfl, rfl, rfl⟩ | ⟨x, rfl, hl, hm, hz, hc, hw⟩
  · exact ⟨[], SlAt.nul⟩
  · obtain ⟨B, f, spot⟩ := x
    obtain rfl : spot = none := hs _ rfl
    have hcap := hI.cap
    refine ⟨(zs.take n).map (BitVec.ofInt 8), by simp; omega, hl, by unfold maxLen at hcap; omega, (fun e => by cases e), fun x e h0 => ?_⟩
    injection e with e
    subst e
    refine ⟨rfl, ?_, List.not_mem_nil, fun j y e => ?_⟩
    · have := cell_block (hc 0 (by omega))
      simpa [Addr.add] using this
    · have hj : j < n := by
        have := (List.getElem?_eq_some_iff.1 e).1
        simp at this; omega
      have hjz : j < zs.length := by omega
      have ha : (⟨B, f, none⟩ : Addr).add j = ⟨B, f + j, none⟩ := by unfold Addr.add; simp
      have hc1 := hc j (by omega)
      rw [ha] at hc1
      refine ⟨_, hc1, ?_⟩
      rw [List.getElem?_map, List.getElem?_map, List.getElem?_take, if_pos hj, List.getElem?_eq_getElem hjz] at e
      simp only [Option.map_some, Option.some.injEq] at e
      subst e
      show Value.int .u8 _ = Value.int .u8 _
      congr 1
      have h3 : zs.getD j 0 = zs[j] := by rw [List.getD_eq_getElem?_getD, List.getElem?_eq_getElem hjz]; rfl
      rw [h3]
      exact wf_w8 (hw _ (List.getElem_mem _))
theorem row_ns {w : World} {a : Option Addr} {n c : Nat} {zs : List Int} (h : IsRow .u64 w a n c zs) (hs : ∀ x, a = some x → x.spot = none) : ∃ l : List (BitVec 64), NsAt w [] a n c l := by
  rcases h with ⟨rfl, rfl, rfl, rfl⟩ | ⟨x, rfl, hl, hm, hz, hc, hw⟩
  · exact ⟨[], SlAt.nul⟩
  · obtain ⟨B, f, spot⟩ := x
    obtain rfl : spot = none := hs _ rfl
    have hcap : c ≤ maxLen := hm
    refine ⟨(zs.take n).map (BitVec.ofInt 64), by simp; omega, hl, by unfold maxLen at hcap; omega, (fun e => by cases e), fun x e h0 => ?_⟩
    injection e with e
    subst e
    refine ⟨rfl, ?_, List.not_mem_nil, fun j y e => ?_⟩
    · have := cell_block (hc 0 (by omega))
      simpa [Addr.add] using this
    · have hj : j < n := by
        have := (List.getElem?_eq_some_iff.1 e).1
        simp at this; omega
      have hjz : j < zs.length := by omega
      have ha : (⟨B, f, none⟩ : Addr).add j = ⟨B, f + j, none⟩ := by unfold Addr.add; simp
      have hc1 := hc j (by omega)
      rw [ha] at hc1
      refine ⟨_, hc1, ?_⟩
      rw [List.getElem?_map, List.getElem?_map, List.getElem?_take, if_pos hj, List.getElem?_eq_getElem hjz] at e
      simp only [Option.map_some, Option.some.injEq] at e
      subst e
      show Value.int .u64 _ = Value.int .u64 _
      congr 1
      have h3 : zs.getD j 0 = zs[j] := by rw [List.getD_eq_getElem?_getD, List.getElem?_eq_getElem hjz]; rfl
      rw [h3]
      exact wf_w64 (hw _ (List.getElem_mem _))
section
variable {H : Type} {enc : TypeId × Value → H} {P : Program} {w : World} {base : Nat} {held : Bool}
theorem raw_b8 {t e : TypeId} {fuel : Nat} {cs : List Value} {y : DataW H × List MemPlace} (ht : P.underlying t = some (.slice e)) (he : P.underlying e = some (.int .u8)) (hc : P.cellsOf e = 1)
    (h : DataW.trod enc P w base (fun _ => true) held fuel t cs = some y) : ∃ (a : Option Addr) (n c : Nat) (l : Bs), cs = [.slice a n c] ∧ BsAt w [] a n c l := by
  rcases open_ints ht he hc h with ⟨rfl, _⟩ | ⟨x, n, c, zs, rfl, _, hl, hm, hz, _, hcell, hwz⟩
  · exact ⟨none, 0, 0, [], rfl, SlAt.nul⟩
  · have hz : zs.length = c := by simpa using hz
    rcases Nat.eq_zero_or_pos c with hc0 | hc0
    · subst hc0
      obtain rfl : n = 0 := by omega
      exact ⟨_, 0, 0, [], rfl, by simp, Nat.le_refl _, by decide, fun _ => rfl, fun x e h0 => absurd rfl h0⟩
    · obtain ⟨l, hl⟩ := row_bs (w := w) (n := n) (c := c) (zs := zs) (.inr ⟨x, rfl, hl, hm, hz, fun i hi => hcell i hi, hwz⟩) (fun y e => by
        cases e
        have := World.cell?_spot (hcell 0 (by omega))
        simpa [Addr.add] using this)
      exact ⟨_, n, c, l, rfl, hl⟩
theorem raw_n64 {t e : TypeId} {fuel : Nat} {cs : List Value} {y : DataW H × List MemPlace} (ht : P.underlying t = some (.slice e)) (he : P.underlying e = some (.int .u64)) (hc : P.cellsOf e = 1)
    (h : DataW.trod enc P w base (fun _ => true) held fuel t cs = some y) : ∃ (a : Option Addr) (n c : Nat) (l : List (BitVec 64)), cs = [.slice a n c] ∧ NsAt w [] a n c l := by
  rcases open_ints ht he hc h with ⟨rfl, _⟩ | ⟨x, n, c, zs, rfl, _, hl, hm, hz, _, hcell, hwz⟩
  · exact ⟨none, 0, 0, [], rfl, SlAt.nul⟩
  · have hz : zs.length = c := by simpa using hz
    rcases Nat.eq_zero_or_pos c with hc0 | hc0
    · subst hc0
      obtain rfl : n = 0 := by omega
      exact ⟨_, 0, 0, [], rfl, by simp, Nat.le_refl _, by decide, fun _ => rfl, fun x e h0 => absurd rfl h0⟩
    · obtain ⟨l, hl⟩ := row_ns (w := w) (n := n) (c := c) (zs := zs) (.inr ⟨x, rfl, hl, hm, hz, fun i hi => hcell i hi, hwz⟩) (fun y e => by
        cases e
        have := World.cell?_spot (hcell 0 (by omega))
        simpa [Addr.add] using this)
      exact ⟨_, n, c, l, rfl, hl⟩
end
section
theorem isL_head {r : Rho} {x : SC} {v : Value} (h : IsL r [x] [v]) : x.Is r v := by
  obtain ⟨u, e, hu⟩ := h.2 0 x rfl
  injection e with e
  rw [e]; exact hu
variable {H : Type} {enc : TypeId × Value → H} {w : World} {base : Nat} {held : Bool}
theorem one_k8 {P : Program} {t : TypeId} {fuel : Nat} {cs : List Value} {y : DataW H × List MemPlace} (ht : P.underlying t = some (.int .u8)) (h : DataW.trod enc P w base (fun _ => true) held fuel t cs = some y) : ∃ b : BitVec 8, ∀ r : Rho, IsL r [.w8 b] cs := by
  obtain ⟨x, rfl, _, wx⟩ := DataW.trod_int ht h
  exact ⟨BitVec.ofInt 8 x, fun r => isL_cons (congrArg _ (wf_w8 wx)) (isL_nil r)⟩
theorem one_t64 {P : Program} {t : TypeId} {fuel : Nat} {cs : List Value} {y : DataW H × List MemPlace} (ht : P.underlying t = some (.int .u64)) (h : DataW.trod enc P w base (fun _ => true) held fuel t cs = some y) : ∃ b : BitVec 64, ∀ r : Rho, IsL r [.w64 b] cs := by
  obtain ⟨x, rfl, _, wx⟩ := DataW.trod_int ht h
  exact ⟨BitVec.ofInt 64 x, fun r => isL_cons (congrArg _ (wf_w64 wx)) (isL_nil r)⟩
set_option maxRecDepth 100000 in
theorem open_ev {fuel : Nat} {cs : List Value} {y : DataW H × List MemPlace} (hl : cs.length = 4) (hf : DataW.trod enc Try.prog w base (fun _ => true) held fuel 28 cs = some y) :
    ∃ (e : Ev) (x : EvC), EvAt w [] x e ∧ ∀ r : Rho, IsL r (flat (evS e x)) cs := by
  obtain ⟨xs, n, _, _, _, hxl, hg⟩ := DataW.trod_struct Try.underlying28 hf
  match cs, hl with
  | [c0, c1, c2, c3], _ =>
    match xs, hxl with
    | [y0, y1, y2, y3], _ =>
      obtain ⟨k, h0⟩ := one_k8 (P := Try.prog) (cs := [c0]) (y := y0) Try.underlying24 (hg 0 _ rfl)
      obtain ⟨t, h1⟩ := one_t64 (P := Try.prog) (cs := [c1]) (y := y1) Try.underlying25 (hg 1 _ rfl)
      obtain ⟨aN, nN, cN, N, e2, hN⟩ := raw_n64 (P := Try.prog) (cs := [c2]) (y := y2) Try.underlying26 Try.underlying25 (by kernel_rfl) (hg 2 _ rfl)
      obtain ⟨aD, nD, cD, D, e3, hD⟩ := raw_b8 (P := Try.prog) (cs := [c3]) (y := y3) Try.underlying23 Try.underlying5 (by kernel_rfl) (hg 3 _ rfl)
      injection e2 with e2; injection e3 with e3
      subst e2; subst e3
      exact ⟨⟨k, t, N, D⟩, ⟨aN, nN, cN, aD, nD, cD⟩, ⟨hN, hD⟩, fun r => isL_cons (isL_head (h0 r)) (isL_cons (isL_head (h1 r)) (isL_cons rfl (isL_cons rfl (isL_nil r))))⟩
set_option maxRecDepth 100000 in
theorem open_evs {rc : Reach} {b0 : Nat} {v : Value} {d : DataW H} {p : List MemPlace} (hval : Value.okWide Try.prog w rc b0 22 v) (h : DataW.Trod enc Try.prog w base (fun _ => true) held 22 v d p) :
    ∃ (a : Option Addr) (n c : Nat) (es : List Ev), v = .slice a n c ∧ EvsAt w [] a n c es := by
  obtain ⟨a0, n0, c0, rfl⟩ := okWide_slice Try.underlying22 hval
  have hspot := okWide_spot Try.underlying22 hval
  obtain ⟨fuel, hf⟩ := h
  rcases DataW.trod_slice Try.underlying22 hf with ⟨hcs, _⟩ | ⟨a, len, cap, elems, rest, m, _, hcs, _, hb, hl, hm, hlen, hel, _, _⟩
  · simp [Value.cells] at hcs
    obtain ⟨rfl, rfl, rfl⟩ := hcs
    exact ⟨none, 0, 0, [], rfl, EvsAt.nul⟩
  simp [Value.cells] at hcs
  obtain ⟨rfl, rfl, rfl⟩ := hcs
  have hsz : Try.prog.cellsOf 28 = 4 := by kernel_rfl
  rw [hsz] at hel
  obtain ⟨B, f, sp⟩ := a
  obtain rfl : sp = none := hspot _ rfl
  have each : ∀ k, ∃ y : Ev, k < n0 → ∃ x, ImAt w [] ((⟨B, f, none⟩ : Addr).add (k * 4)) (flat (evS y x)) ∧ EvAt w [] x y := by
    intro k
    by_cases hk : k < n0
    · have h1 := hel k hk
      rw [List.getElem?_eq_getElem (by omega), Option.bind_eq_some_iff] at h1
      obtain ⟨cs, hcs, ht⟩ := h1
      obtain ⟨hb', hlen', hget⟩ := World.cells?_some hcs
      obtain ⟨e, x, hx, hi⟩ := open_ev hlen' ht
      refine ⟨e, fun _ => ⟨x, ⟨?_, ?_, List.not_mem_nil, fun j y he => ?_⟩, hx⟩⟩
      · simp only [Addr.add]; split <;> rfl
      · have h0 := hget 0 (by omega)
        rw [List.getElem?_eq_getElem (by omega)] at h0
        exact cell_block h0
      · obtain ⟨v, e1, e2⟩ := (hi []).2 j y he
        have hj : j < 4 := (List.getElem?_eq_some_iff.1 he).1
        refine ⟨v, ?_, e2⟩
        have h0 := hget j hj
        rw [e1] at h0
        rw [← h0]
        congr 1
        simp only [Addr.add]
        split <;> split <;> simp <;> omega
    · exact ⟨⟨0#8, 0#64, [], []⟩, fun h => absurd h hk⟩
  obtain ⟨g, hg⟩ := Classical.axiomOfChoice each
  refine ⟨some ⟨B, f, none⟩, n0, c0, (List.range n0).map g, rfl, by simp, hl, by (have : c0 ≤ maxLen := hm; unfold maxLen at this; omega), (fun e => by cases e), fun A hA k e he => ?_⟩
  cases hA
  have hk : k < n0 := by have := (List.getElem?_eq_some_iff.1 he).1; simpa using this
  rw [List.getElem?_map, List.getElem?_range hk] at he
  injection he with he
  subst he
  exact hg k hk
end
end Sx
end Go.Proofs.Ytdakmieapdpidaa
end
