/-
  Texts of this claim, part 9: SeV, SeX, SeY, HdC, VrA, HdD, HdF, Sxs, HdG, SeZ, SeF, SeG, SeB, Sxw2, RowL. No condition of its own.
-/
import Derived.ChangeArms
import Derived.Test.YtkjdkeolkigibaaGreatG8
section
/-
  Packets, protected. No condition.
-/
namespace Go.Proofs.YtkjdkeolkigibaaGreat
set_option linter.unusedVariables false
namespace Sx
open Sha Vi Aes Gcm
set_option linter.unusedSimpArgs false
set_option maxRecDepth 20000 in
theorem fn_bclone_row (s : Sl) (hs : s.Ok) (hz : s.z = false) : FnR Tryz.prog tds 26 1 [svB s] [.c (svC 0 s)] (fun _ => True)
    (fun y hs => ∃ c, s.l.length ≤ c ∧ y = .a (.c (.sl 1 0 0 s.l.length c)) ∧ hs = [svB s, lsC s.l c]) := by
  refine fn_of_body tds_ok follows_ Tryz.func26 rfl (t := .a (.c (svC 0 s)) :: anys (Tryz.f26.ntmps - 1)) rfl (fun w r0 hr _ => ?_)
  obtain ⟨x0, rfl⟩ := List.length_eq_one_iff.1 hr
  have hsm := hs.small
  (repeat first | refine And.intro (by omega) ?_ | refine And.intro (by decide) ?_ | refine And.intro rfl ?_ | refine And.intro (fun _ => ?_) (fun h => Bool.noConfusion h) | refine And.intro (fun h => Bool.noConfusion h) (fun _ => ?_) | refine And.intro (fun _ => ?_) (fun h => absurd h (by rw [hz]; decide)) | refine And.intro (fun h => absurd h (by rw [hz]; decide)) (fun _ => ?_))
  refine sn_bts rfl hs.fit (fun h => by rw [hs.nil h]; rfl) (fun g hg => ?_)
  refine ⟨⟨Nat.le_refl _, Nat.le_refl _, by show (0 + s.l.length) * 1 ≤ 140737488355328; omega⟩, fun c' hc' => ?_⟩
  refine ⟨.a (.c (.sl 1 0 0 s.l.length c')), [svB s, lsC s.l c'], ⟨[0, 2], ⟨rfl, rfl, rfl⟩, ?_⟩, c', (by omega), rfl, rfl⟩
  (repeat first | exact trivial | refine ent1 ?_)
  refine eqC_bts ?_
  (repeat first | exact trivial | refine ent1 ?_)
  refine ⟨fun j hj => eqC_bytes (fun i hi => ?_) j, trivial⟩
  exact app_row (l := []) (m := s.l) (f := nthC []) rfl rfl (fun i hi => absurd hi (by simp)) hg i (by simpa using hi)
theorem fn_bclone_sl (l : Bs) (c1 : Nat) (h1 : l.length ≤ c1) (h2 : l.length ≤ 1000000) : FnR Tryz.prog tds 26 1 [lsC l c1] [.c (.sl 0 0 0 l.length c1)] (fun _ => True)
    (fun y hs => ∃ c, l.length ≤ c ∧ y = .a (.c (.sl 1 0 0 l.length c)) ∧ hs = [lsC l c1, lsC l c]) := by
  refine fn_of_body tds_ok follows_ Tryz.func26 rfl (t := .a (.c (.sl 0 0 0 l.length c1)) :: anys (Tryz.f26.ntmps - 1)) rfl (fun w r0 hr _ => ?_)
  obtain ⟨x0, rfl⟩ := List.length_eq_one_iff.1 hr
  (repeat first | refine And.intro rfl ?_ | refine And.intro (fun _ => ?_) (fun h => Bool.noConfusion h) | refine And.intro (fun h => Bool.noConfusion h) (fun _ => ?_) | (with_reducible refine frc_bytesL (by first | omega | decide) ?_) | (with_reducible refine frc_bytesM (by first | omega | decide) ?_) | refine And.intro (by decide) ?_ | refine And.intro (by omega) ?_)
  try refine And.intro (show 0 + l.length ≤ c1 by omega) ?_
  refine ⟨⟨Nat.le_refl _, Nat.le_refl _, by show (0 + l.length) * 1 ≤ 140737488355328; omega⟩, fun c' hc' => ?_⟩
  refine ⟨.a (.c (.sl 1 0 0 l.length c')), [lsC l c1, lsC l c'], ⟨[0, 2], ⟨rfl, rfl, rfl⟩, ?_⟩, c', (by omega), rfl, rfl⟩
  (repeat first | exact trivial | refine ent1 ?_)
  refine ⟨fun j hj => eqC_bytes (fun i hi => ?_) j, trivial⟩
  exact app_row (l := []) (m := l) (f := nthC []) rfl rfl (fun i hi => absurd hi (by simp)) (fun i hi => bytesF_lt hi) i (by simpa using hi)
theorem mask_startF {R : Nat → BitVec 8} {h : BitVec 8} {at_ n x : Nat} {f : Nat → SC} {l : Bs} {v : SC} (hf : ∀ i, i < n → f i = .w8 (L l i)) (hl : l.length = n) (hx : x = 0) (hv : v = .w8 (L l 0 ^^^ (R 0 &&& h))) (i : Nat) (hi : i < n) : upd f x v i = .w8 (L (maskL R h at_ 0 l) i) := by
  rw [maskL_at (by omega)]
  unfold upd
  by_cases hi0 : i = 0
  · rw [if_pos (by omega), if_pos hi0, hv]
  · rw [if_neg (by omega), if_neg hi0, if_neg (by omega), hf i hi]
theorem fn_bclone_nil (s : Sl) (hz : s.z = true) : FnR Tryz.prog tds 26 1 [svB s] [.c (svC 0 s)] (fun _ => True)
    (fun y hs => y = .a (.c (.slc none 0 0)) ∧ hs = [svB s]) := by
  refine fn_of_body tds_ok follows_ Tryz.func26 rfl (t := .a (.c (svC 0 s)) :: anys (Tryz.f26.ntmps - 1)) rfl (fun w r0 hr _ => ?_)
  obtain ⟨x0, rfl⟩ := List.length_eq_one_iff.1 hr
  (repeat first | refine And.intro (by omega) ?_ | refine And.intro (by decide) ?_ | refine And.intro rfl ?_ | refine And.intro (fun _ => ?_) (fun h => Bool.noConfusion h) | refine And.intro (fun h => Bool.noConfusion h) (fun _ => ?_) | refine And.intro (fun _ => ?_) (fun h => absurd h (by rw [hz]; decide)) | refine And.intro (fun h => absurd h (by rw [hz]; decide)) (fun _ => ?_))
  refine ⟨.a (.c (.slc none 0 0)), [svB s], ⟨[0], ⟨rfl, rfl, rfl⟩, ?_⟩, rfl, rfl⟩
  (repeat first | exact trivial | refine ent1 ?_)
  refine eqC_bts ?_
  (repeat first | exact trivial | refine ent1 ?_)
/-- A header with a packet's number. -/
def numH (h : Hd) (n : BitVec 64) (k : Nat) : Hd := ⟨h.sp, h.t, h.f, h.k, h.turn, ⟨false, k, 0, k, cutM n k⟩⟩
theorem check_congr {g h : Hd} (e : HdEq g h) : checkM g = checkM h := by
  unfold checkM; rw [e.sp, e.t, e.f, e.k, e.n, e.turn]
theorem putE_congr {g h : Hd} (e : HdEq g h) (q : Int) : putE g q = putE h q := by
  unfold putE; rw [check_congr e]
theorem putH_congr {g h : Hd} (e : HdEq g h) (p : Nat) : putH g p = putH h p := by
  unfold putH fstB; rw [e.sp, e.t, e.f, e.k, e.n, e.turn]
theorem len10' {α : Type} : ∀ {l : List α}, l.length = 10 → ∃ a b c d e f g h i j, l = [a, b, c, d, e, f, g, h, i, j]
  | [a, b, c, d, e, f, g, h, i, j], _ => ⟨a, b, c, d, e, f, g, h, i, j, rfl⟩
abbrev plS : Option (Bs × Nat) → SC
  | none => .slc none 0 0
  | some (q, c) => .sl 15 0 0 q.length c
abbrev plB : Option (Bs × Nat) → List Seg
  | none => []
  | some (q, c) => lsC q c
def plP (l : Bs) (k : Nat) : Option (Bs × Nat) → Prop
  | none => l = []
  | some (q, c) => q.length ≤ c ∧ ∃ j, q = l ++ List.replicate j 0#8 ∧ (j = 0 ∨ q.length + k ≤ 4)
def plM : Option (Bs × Nat) → Nat
  | none => 5
  | some (q, _) => 4 - q.length
abbrev prB (h : Hd) (P : Sl) (iv Kk K2 : Nat → BitVec 8) (H : Gcm.E) (cnt : Int) : List (List Seg) := [svB h.t, svB h.f, svB h.k, svB h.n, svB P, kyV 8 9 iv, tabs 1 0 boxes (cnt), keyD 6 Kk, sealC 7 H, keyD 6 K2]
set_option maxRecDepth 20000 in
set_option maxHeartbeats 16000000 in
theorem fn_protect (h : Hd) (ho : h.Ok) (P : Sl) (hP : P.Ok) (hPs : P.l.length ≤ 2000) (n : BitVec 64) (hn : ¬ 4611686018427387903#64 < n) (acked : Int) (ha : -9223372036854775808 ≤ acked ∧ acked ≤ 9223372036854775807) (cnt : Int) (hc : 0 ≤ cnt ∧ cnt ≤ 800000000)
    (kq kh Kk K2 iv R : Nat → BitVec 8) (E : (Nat → BitVec 8) → Nat → BitVec 8) (H : Gcm.E) (hKk : pKeys kq = Kk) (hE : pTurn kq = E) (hK2 : pKeys kh = K2) (k : Nat) (hk : sizeM n acked = k) (hN : Hd) (hhN : numH h n k = hN) (pl : Bs) (hpl : P.l ++ List.replicate (4 - k - P.l.length) 0#8 = pl)
    (pE : Int) (hpE : putE hN ((pl.length : Int) + 16) = pE) (op : Bs) (hop : putH hN (pl.length + 16) = op) (S : Bs) (hS : sealL E H (nonB iv n) op pl = S) (at_ : Nat) (hat : op.length = at_ + k) (hal : 1 ≤ at_ ∧ op.length ≤ 1000) (hR : pTurn kh (smpB (op ++ S) at_) = R) :
    FnR Tryz.prog tds 14 6 (prB h P iv Kk K2 H cnt) [.c (.p 5 0 0), .agg (hdC 0 1 2 3 h), .c (.w64 n), .c (.int .i64 acked), .c (svC 4 P)] (fun _ => True)
      (fun y hs => (pE ≠ 0 → y = .tup [.c (.slc none 0 0), .c (.int .i64 pE)] ∧ hs = prB h P iv Kk K2 H cnt) ∧
        (pE = 0 → ∃ (c : Nat) (cnt' : Int), cnt ≤ cnt' ∧ cnt' ≤ cnt + 200 ∧ (op ++ S).length ≤ c ∧ y = .tup [.c (.sl 10 0 0 (op ++ S).length c), .c (.int .i64 0)] ∧ hs = prB h P iv Kk K2 H cnt' ++ [lsC (maskL R (hidB h.sp) at_ k (op ++ S)) c])) := by
  refine fn_of_body tds_ok follows_ Tryz.func14 rfl (t := .a (.c (.p 5 0 0)) :: .a (.agg (hdC 0 1 2 3 h)) :: .a (.c (.w64 n)) :: .a (.c (.int .i64 acked)) :: .a (.c (svC 4 P)) :: anys (Tryz.f14.ntmps - 5)) rfl (fun w r0 hr _ => ?_)
  obtain ⟨x0, x1, x2, x3, x4, x5, x6, x7, x8, x9, rfl⟩ := len10' hr
  have d1 : decide (4611686018427387903#64 < n) = false := decide_eq_false hn
  have hk14 := sizeM_le n acked
  rw [hk] at hk14
  have lp : pl.length = P.l.length + (4 - k - P.l.length) := by rw [← hpl, List.length_append, List.length_replicate]
  have lS : S.length = pl.length + 16 := by rw [← hS, sealL_len]
  (repeat first | refine And.intro rfl ?_ | refine And.intro (fun _ => ?_) (fun h => absurd h (by rw [d1]; decide)) | refine And.intro (fun h => absurd h (by rw [d1]; decide)) (fun _ => ?_) | refine And.intro (fun _ => ?_) (fun h => Bool.noConfusion h) | refine And.intro (fun h => Bool.noConfusion h) (fun _ => ?_) | (with_reducible refine frc_bytesL (by first | omega | decide) ?_) | (with_reducible refine frc_bytesM (by first | omega | decide) ?_) | refine And.intro (by decide) ?_ | refine And.intro (by omega) ?_)
  refine call_same (fn_hwith h ho n acked ha) [0, 1, 2, 3] rfl (by (repeat first | exact trivial | refine ent1 ?_)) ?_ (fun _ _ => trivial) ?_
  · refine eqC_bts (eqC_bts (eqC_bts (eqC_bts ?_)))
    (repeat first | exact trivial | refine ent1 ?_)
  rintro x hs ⟨g, hg, g1, g2, g3, g4, g5, g6, rfl, rfl⟩
  have gq : HdEq g hN := by rw [← hhN]; exact ⟨g1, g2, g3, g4, g5, by rw [g6, hk]; rfl⟩
  have lg : g.n.l.length = k := by rw [g6, hk]; exact tab_len _ _
  (repeat first | refine And.intro rfl ?_ | refine And.intro (fun _ => ?_) (fun h => Bool.noConfusion h) | refine And.intro (fun h => Bool.noConfusion h) (fun _ => ?_) | (with_reducible refine frc_bytesL (by first | omega | decide) ?_) | (with_reducible refine frc_bytesM (by first | omega | decide) ?_) | refine And.intro (by decide) ?_ | refine And.intro (by omega) ?_)
  by_cases hz : P.z = true
  · have hPl : P.l = [] := hP.nil hz
    refine call_same (fn_bclone_nil P hz) [4] rfl (by (repeat first | exact trivial | refine ent1 ?_)) (eqC_bts trivial) (fun _ _ => trivial) ?_
    rintro x hs ⟨rfl, rfl⟩
    (repeat first | refine And.intro rfl ?_ | refine And.intro (fun _ => ?_) (fun h => Bool.noConfusion h) | refine And.intro (fun h => Bool.noConfusion h) (fun _ => ?_) | (with_reducible refine frc_bytesL (by first | omega | decide) ?_) | (with_reducible refine frc_bytesM (by first | omega | decide) ?_) | refine And.intro (by decide) ?_ | refine And.intro (by omega) ?_)
    refine .inl ⟨Option (Bs × Nat), fun x => ⟨[.a (.c (.p 5 0 0)), .any, .a (.c (.w64 (n))), .any, .any, .any, .a (.c (.p 10 0 0)), .any, .any, .any, .any, .any, .a (.c (plS x)), .any, .any, .any, .any, .any, .any, .any, .any, .any, .any, .any, .any, .any, .any, .any, .any, .any, .any, .any, .any, .any, .any, .any, .any, .any, .any, .any, .any, .any, .any, .any, .any, .any, .any, .any, .any, .any, .any, .any, .any, .any, .any, .any, .any, .any, .any, .any, .any, .any, .any, .any, .any, .any, .any, .any, .any, .any, .any, .any, .any, .any, .any, .any, .any, .any, .any, .any, .any, .any, .any, .any, .any, .any, .any, .any, .any, .any, .any, .any, .any, .any, .any, .any, .any, .any, .any, .any, .any, .any, .any, .any, .any, .any, .any], [svB h.t, svB h.f, svB h.k, svB h.n, svB P, kyV 8 9 iv, tabs 1 0 boxes cnt, keyD 6 Kk, sealC 7 H, keyD 6 K2, hdC 11 12 13 14 g, svB g.t, svB g.f, svB g.k, svB g.n, plB x]⟩, plP P.l k, plM, ⟨none, [0, 1, 2, 3, 4, 5, 6, 7, 8, 9, 10, 11, 12, 13, 14, 9], ⟨⟨rfl, rfl, rfl⟩, ?_⟩, hPl⟩, fun x hx => ?_⟩
    · (repeat first | exact trivial | refine ent1 ?_)
      refine eqC_bts (eqC_bts (eqC_bts (eqC_bts (eqC_bts ?_))))
      (repeat first | exact trivial | refine ent1 ?_)
      refine eqC_btsM (eqC_btsM (eqC_btsM (eqC_btsM ?_)))
      (repeat first | exact trivial | refine ent1 ?_)
    · rcases x with _ | ⟨q, c⟩ <;> dsimp only [plS, plB]
      · have hx : P.l = [] := hx
        by_cases h4 : 0 + k < 4
        · have d4 : decide (((0 : Nat) : Int) + (g.n.l.length : Int) < 4) = true := decide_eq_true (by omega)
          (repeat first | refine And.intro rfl ?_ | refine And.intro (fun _ => ?_) (fun h => Bool.noConfusion h) | refine And.intro (fun h => Bool.noConfusion h) (fun _ => ?_) | (with_reducible refine frc_bytesL (by first | omega | decide) ?_) | (with_reducible refine frc_bytesM (by first | omega | decide) ?_) | refine And.intro (by decide) ?_ | refine And.intro (by omega) ?_)
          refine And.intro (fun _ => ?_) (fun h => Bool.noConfusion (Eq.trans (Eq.symm h) d4))
          (repeat first | refine And.intro rfl ?_ | refine And.intro (fun _ => ?_) (fun h => Bool.noConfusion h) | refine And.intro (fun h => Bool.noConfusion h) (fun _ => ?_) | (with_reducible refine frc_bytesL (by first | omega | decide) ?_) | (with_reducible refine frc_bytesM (by first | omega | decide) ?_) | refine And.intro (by decide) ?_ | refine And.intro (by omega) ?_)
          intro _ c' hc'
          refine ⟨some ([0#8], c'), [0, 1, 2, 3, 4, 5, 6, 7, 8, 9, 10, 11, 12, 13, 14, 17], ⟨⟨rfl, rfl, rfl⟩, ?_⟩, ⟨hc', 1, (by rw [hx]; rfl), .inr (by show 1 + k ≤ 4; omega)⟩, (by show 4 - 1 < 5; omega)⟩
          (repeat first | exact trivial | refine ent1 ?_)
          refine eqC_bts (eqC_bts (eqC_bts (eqC_bts (eqC_bts ?_))))
          (repeat first | exact trivial | refine ent1 ?_)
          refine eqC_bts (eqC_bts (eqC_bts (eqC_bts ?_)))
          (repeat first | exact trivial | refine ent1 ?_)
          refine ⟨fun i hi => eqC_bytes (n := 1) (b := L [0#8]) (fun i hi => ?_) i, trivial⟩
          show (if i < 1 then nthC [SC.w8 0#8] (i + 0) else SC.any) = _
          rw [if_pos hi]
          exact one_row rfl i hi
        have d4 : decide (((0 : Nat) : Int) + (g.n.l.length : Int) < 4) = false := decide_eq_false (by omega)
        (repeat first | refine And.intro rfl ?_ | refine And.intro (fun _ => ?_) (fun h => Bool.noConfusion h) | refine And.intro (fun h => Bool.noConfusion h) (fun _ => ?_) | (with_reducible refine frc_bytesL (by first | omega | decide) ?_) | (with_reducible refine frc_bytesM (by first | omega | decide) ?_) | refine And.intro (by decide) ?_ | refine And.intro (by omega) ?_)
        refine And.intro (fun h => Bool.noConfusion (Eq.trans (Eq.symm h) d4)) (fun _ => ?_)
        obtain rfl : pl = [] := by rw [← hpl, hx, List.nil_append, show 4 - k - ([] : Bs).length = 0 by show 4 - k - 0 = 0; omega]; rfl
        have lS : S.length = (0 : Nat) + 16 := lS
        (repeat first | refine And.intro rfl ?_ | refine And.intro (fun _ => ?_) (fun h => Bool.noConfusion h) | refine And.intro (fun h => Bool.noConfusion h) (fun _ => ?_) | (with_reducible refine frc_bytesL (by first | omega | decide) ?_) | (with_reducible refine frc_bytesM (by first | omega | decide) ?_) | refine And.intro (by decide) ?_ | refine And.intro (by omega) ?_)
        have hq16 : (((0 : Nat) : Int) + 16).toNat = (0 : Nat) + 16 := by omega
        refine call_same (fn_hput g hg (((0 : Nat) : Int) + 16)) [11, 12, 13, 14] rfl (by (repeat first | exact trivial | refine ent1 ?_)) ?_ (fun _ _ => trivial) ?_
        · refine eqC_bts (eqC_bts (eqC_bts (eqC_bts ?_)))
          (repeat first | exact trivial | refine ent1 ?_)
        rintro x hs ⟨hbad, hok⟩
        have hpe : putE g (((0 : Nat) : Int) + 16) = pE := by rw [putE_congr gq]; exact hpE
        rw [hpe] at hbad hok
        by_cases hE0 : pE = 0
        rotate_left
        · obtain ⟨rfl, rfl⟩ := hbad hE0
          have dE : decide (pE ≠ 0) = true := decide_eq_true hE0
          (repeat first | refine And.intro rfl ?_ | refine And.intro (fun _ => ?_) (fun h => absurd h (by rw [dE]; decide)) | refine And.intro (fun h => absurd h (by rw [dE]; decide)) (fun _ => ?_) | refine And.intro (fun _ => ?_) (fun h => Bool.noConfusion h) | refine And.intro (fun h => Bool.noConfusion h) (fun _ => ?_) | (with_reducible refine frc_bytesL (by first | omega | decide) ?_) | (with_reducible refine frc_bytesM (by first | omega | decide) ?_) | refine And.intro (by decide) ?_ | refine And.intro (by omega) ?_)
          refine ⟨.tup [.c (.slc none 0 0), .c (.int .i64 pE)], prB h P iv Kk K2 H cnt, ⟨[0, 1, 2, 3, 4, 5, 6, 7, 8, 9], ⟨rfl, rfl, rfl⟩, ?_⟩, fun _ => ⟨rfl, rfl⟩, fun e => absurd e hE0⟩
          (repeat first | exact trivial | refine ent1 ?_)
          refine eqC_bts (eqC_bts (eqC_bts (eqC_bts (eqC_bts ?_))))
          (repeat first | exact trivial | refine ent1 ?_)
        obtain ⟨c1, hc1, rfl, rfl⟩ := hok hE0
        rw [hq16, putH_congr gq, show putH hN ((0 : Nat) + 16) = op from hop]
        rw [hq16, putH_congr gq, show putH hN ((0 : Nat) + 16) = op from hop] at hc1
        (repeat first | refine And.intro rfl ?_ | refine And.intro (fun _ => ?_) (fun h => Bool.noConfusion h) | refine And.intro (fun h => Bool.noConfusion h) (fun _ => ?_) | (with_reducible refine frc_bytesL (by first | omega | decide) ?_) | (with_reducible refine frc_bytesM (by first | omega | decide) ?_) | refine And.intro (by decide) ?_ | refine And.intro (by omega) ?_)
        refine call_same (fn_kseal false true c1 0 0 0 op.length (0 : Nat) c1 0 op ([] : Bs) S cnt kq Kk iv n E hKk hE H hS rfl (by omega) hc1 (fun h => Bool.noConfusion h) (by omega) rfl (by omega) (Nat.le_refl _) (fun _ => rfl) (by omega) (by omega)) [16, 4, 5, 6, 7, 8] rfl (by (repeat first | exact trivial | refine ent1 ?_)) ?_ (fun _ _ => trivial) ?_
        · (repeat first | exact trivial | refine ent1 ?_)
          refine ⟨fun j hj => eqC_winBM (Nat.le_refl _), ?_⟩
          refine eqSegs_nil ?_
          refine eqSegs_nil ?_
          (repeat first | exact trivial | refine ent1 ?_)
        rintro x hs' ⟨c2, hc2, rfl, rfl⟩
        have d13 : decide ((((0 : Nat) + 16 : Nat) : Int) < ((0 : Nat) : Int) + 16) = false := decide_eq_false (by omega)
        (repeat first | refine And.intro rfl ?_ | refine And.intro (fun _ => ?_) (fun h => absurd h (by rw [d13]; decide)) | refine And.intro (fun h => absurd h (by rw [d13]; decide)) (fun _ => ?_) | refine And.intro (fun _ => ?_) (fun h => Bool.noConfusion h) | refine And.intro (fun h => Bool.noConfusion h) (fun _ => ?_) | (with_reducible refine frc_bytesL (by first | omega | decide) ?_) | (with_reducible refine frc_bytesM (by first | omega | decide) ?_) | refine And.intro (by decide) ?_ | refine And.intro (by omega) ?_)
        refine call_same (fn_bclone_sl op c1 hc1 (by omega)) [16] rfl (by (repeat first | exact trivial | refine ent1 ?_)) (by (repeat first | exact trivial | refine ent1 ?_)) (fun _ _ => trivial) ?_
        rintro x hs' ⟨c3, hc3, rfl, rfl⟩
        have lB : (op ++ S).length = op.length + ((0 : Nat) + 16) := by rw [List.length_append, lS]
        (repeat first | refine And.intro rfl ?_ | refine And.intro (fun _ => ?_) (fun h => Bool.noConfusion h) | refine And.intro (fun h => Bool.noConfusion h) (fun _ => ?_) | (with_reducible refine frc_bytesL (by first | omega | decide) ?_) | (with_reducible refine frc_bytesM (by first | omega | decide) ?_) | refine And.intro (by decide) ?_ | refine And.intro (by omega) ?_)
        refine ⟨(show 0 + ((0 : Nat) + 16) ≤ c2 by omega), ?_⟩
        refine ⟨⟨hc3, (show 0 + c3 ≤ c3 by omega), (show (op.length + ((0 : Nat) + 16)) * 1 ≤ 140737488355328 by omega)⟩, fun c4 hc4 => ?_⟩
        (repeat first | refine And.intro rfl ?_ | refine And.intro (fun _ => ?_) (fun h => Bool.noConfusion h) | refine And.intro (fun h => Bool.noConfusion h) (fun _ => ?_) | (with_reducible refine frc_bytesL (by first | omega | decide) ?_) | (with_reducible refine frc_bytesM (by first | omega | decide) ?_) | refine And.intro (by decide) ?_ | refine And.intro (by omega) ?_)
        obtain ⟨B, hB⟩ : ∃ B, op ++ S = B := ⟨_, rfl⟩
        have rowB : ∀ {g1 g2 : Nat → Nat} (i : Nat), i < B.length → appF (fun j => SC.mp g1 (bytesF op.length (L op) j)) 0 (scale op.length (0 + 1)) (scale ((0 : Nat) + 16) (0 + 1)) (fun q' => SC.mp g2 (bytesF ((0 : Nat) + 16) (L S) (q' + 0))) i = .w8 (L B i) := by
          intro g1 g2 i hi
          rw [← hB]
          exact app_row (l := op) (m := S) rfl lS (fun i hi => by show SC.mp _ (bytesF op.length (L op) i) = _; rw [bytesF_lt hi]; rfl) (fun i hi => by show SC.mp _ (bytesF ((0 : Nat) + 16) (L S) i) = _; rw [bytesF_lt hi]; rfl) i (by rw [← lB, hB]; exact hi)
        rw [hB] at hR lB ⊢
        have oB : Sl.Ok ⟨false, c4, 0, c4, B⟩ := own_ok (by omega) (by omega)
        refine call_same (fn_maskOf ⟨false, c4, 0, c4, B⟩ oB at_ (by show at_ + 20 ≤ B.length; omega) (cnt + (((0 : Nat) + 15) / 16 : Nat) + 1) kh K2 R hK2 hR (by omega)) [19, 5, 6, 9] rfl ?_ ?_ (fun _ _ => trivial) ?_
        · (repeat first | exact trivial | refine ent1 ?_)
          refine ⟨lB.symm, rfl, ?_⟩
          (repeat first | exact trivial | refine ent1 ?_)
        · rw [svB_row (s := ⟨false, c4, 0, c4, B⟩) rfl]
          refine ⟨rfl, fun j hj => eqC_win0 (fun i hi => rowB i hi) j, ?_⟩
          (repeat first | exact trivial | refine ent1 ?_)
        rintro x hs' ⟨rfl, rfl⟩
        (repeat first | refine And.intro rfl ?_ | refine And.intro (fun _ => ?_) (fun h => Bool.noConfusion h) | refine And.intro (fun h => Bool.noConfusion h) (fun _ => ?_) | (with_reducible refine frc_bytesL (by first | omega | decide) ?_) | (with_reducible refine frc_bytesM (by first | omega | decide) ?_) | refine And.intro (by decide) ?_ | refine And.intro (by omega) ?_)
        refine ⟨some [10, 19, 20], [], [(0, true), (1, true), (2, true), (3, true), (4, true), (5, true), (6, true), (7, false), (8, true), (9, true), (10, true)], [11], by kernel_rfl, ?_⟩
        refine And.intro (show (0 : Int) ≤ 0 ∧ (0 : Int) < ((op.length + ((0 : Nat) + 16) : Nat) : Int) by omega) ?_
        refine And.intro (show 0 < c4 by omega) ?_
        refine frc_eq (rowB 0 (by omega)) ?_
        (repeat first | refine And.intro rfl ?_ | refine And.intro (fun _ => ?_) (fun h => Bool.noConfusion h) | refine And.intro (fun h => Bool.noConfusion h) (fun _ => ?_) | (with_reducible refine frc_bytesL (by first | omega | decide) ?_) | (with_reducible refine frc_bytesM (by first | omega | decide) ?_) | refine And.intro (by decide) ?_ | refine And.intro (by omega) ?_)
        refine call_same (fn_hidden g.sp) [] rfl (by (repeat first | exact trivial | refine ent1 ?_)) trivial (fun _ _ => trivial) ?_
        rintro x hs' ⟨rfl, rfl⟩
        (repeat first | refine And.intro rfl ?_ | refine And.intro (fun _ => ?_) (fun h => Bool.noConfusion h) | refine And.intro (fun h => Bool.noConfusion h) (fun _ => ?_) | (with_reducible refine frc_bytesL (by first | omega | decide) ?_) | (with_reducible refine frc_bytesM (by first | omega | decide) ?_) | refine And.intro (by decide) ?_ | refine And.intro (by omega) ?_)
        refine And.intro (show 0 < c4 by omega) ?_
        (repeat first | refine And.intro rfl ?_ | refine And.intro (fun _ => ?_) (fun h => Bool.noConfusion h) | refine And.intro (fun h => Bool.noConfusion h) (fun _ => ?_) | (with_reducible refine frc_bytesL (by first | omega | decide) ?_) | (with_reducible refine frc_bytesM (by first | omega | decide) ?_) | refine And.intro (by decide) ?_ | refine And.intro (by omega) ?_)
        refine .inl ⟨Nat, fun j => ⟨[.any, .any, .any, .any, .any, .any, .any, .any, .any, .any, .any, .any, .any, .any, .any, .any, .a (.c (.int .i64 (↑at_))), .a (.c (.sl 10 0 0 B.length c4)), .a (.c (.p 11 0 0)), .any, .any, .any, .any, .any, .any, .any, .any, .any, .any, .any, .any, .any, .any, .any, .any, .any, .any, .any, .any, .any, .any, .any, .any, .any, .any, .any, .any, .any, .any, .any, .any, .any, .any, .any, .any, .any, .any, .any, .any, .any, .any, .any, .any, .any, .any, .any, .any, .any, .any, .any, .any, .any, .any, .any, .any, .any, .any, .any, .any, .any, .any, .any, .any, .any, .any, .any, .any, .any, .any, .a (.c (.int .i64 (↑k))), .a (.c (.int .i64 (↑j))), .any, .any, .any, .any, .any, .any, .any, .any, .any, .any, .any, .any, .any, .any, .any, .any], [svB h.t, svB h.f, svB h.k, svB h.n, svB P, kyV 8 9 iv, tabs 1 0 boxes (cnt + (((0 : Nat) + 15) / 16 : Nat) + 1 + 1), keyD 6 Kk, sealC 7 H, keyD 6 K2, [.row c4 (winF 0 B.length (L (maskL R (hidB h.sp) at_ j B)))], [.row 5 fun i => .w8 (R i)]]⟩, fun j => j ≤ k, fun j => k - j, ⟨0, [0, 1, 2, 3, 4, 5, 6, 7, 8, 9, 19, 20], ⟨⟨rfl, rfl, rfl⟩, ?_⟩, Nat.zero_le _⟩, fun j hj => ⟨fun hj1 => ?_, fun hj2 => ?_⟩⟩
        · (repeat first | exact trivial | refine ent1 ?_)
          refine eqC_bts (eqC_bts (eqC_bts (eqC_bts (eqC_bts ?_))))
          (repeat first | exact trivial | refine ent1 ?_)
          refine ⟨fun j hj => eqC_win0 (fun i hi => mask_startF rowB rfl rfl (by rw [g1]; rfl) i hi) j, ?_⟩
          (repeat first | exact trivial | refine ent1 ?_)
        · have hlt : j < k := by have : (j : Int) < (k : Int) := of_decide_eq_true hj1; omega
          (repeat first | refine And.intro rfl ?_ | refine And.intro (fun _ => ?_) (fun h => Bool.noConfusion h) | refine And.intro (fun h => Bool.noConfusion h) (fun _ => ?_) | (with_reducible refine frc_bytesL (by first | omega | decide) ?_) | (with_reducible refine frc_bytesM (by first | omega | decide) ?_) | refine And.intro (by decide) ?_ | refine And.intro (by omega) ?_)
          refine ⟨some [10, 11], [], [(0, true), (1, true), (2, true), (3, true), (4, true), (5, true), (6, true), (7, true), (8, true), (9, true), (10, true), (11, true)], [12], by kernel_rfl, ?_⟩
          (repeat first | refine And.intro rfl ?_ | refine And.intro (fun _ => ?_) (fun h => Bool.noConfusion h) | refine And.intro (fun h => Bool.noConfusion h) (fun _ => ?_) | (with_reducible refine frc_bytesL (by first | omega | decide) ?_) | (with_reducible refine frc_bytesM (by first | omega | decide) ?_) | refine And.intro (by decide) ?_ | refine And.intro (by omega) ?_)
          with_reducible refine frc_winA (at_ + j) (show ((at_ : Int) + (j : Int)).toNat + 0 = at_ + j + 0 by omega) (by omega) ?_
          (repeat first | refine And.intro rfl ?_ | refine And.intro (fun _ => ?_) (fun h => Bool.noConfusion h) | refine And.intro (fun h => Bool.noConfusion h) (fun _ => ?_) | (with_reducible refine frc_bytesL (by first | omega | decide) ?_) | (with_reducible refine frc_bytesM (by first | omega | decide) ?_) | refine And.intro (by decide) ?_ | refine And.intro (by omega) ?_)
          refine ⟨j + 1, [0, 1, 2, 3, 4, 5, 6, 7, 8, 9, 10, 11], ⟨⟨rfl, rfl, rfl⟩, ?_⟩, by dsimp only; omega, by dsimp only; omega⟩
          (repeat first | exact trivial | refine ent1 ?_)
          refine eqC_bts (eqC_bts (eqC_bts (eqC_bts (eqC_bts ?_))))
          (repeat first | exact trivial | refine ent1 ?_)
          refine ⟨fun i' hi' => eqC_win (fun i hi => mask_step rfl hal.1 (by omega) (show ((at_ : Int) + (j : Int)).toNat + 0 = 0 + (at_ + j) by omega) (by rw [show 1 + j = (1 + (j : Int)).toNat + 0 by omega]) i hi) i', ?_⟩
          (repeat first | exact trivial | refine ent1 ?_)
        · obtain rfl : j = k := by have : ¬ (j : Int) < (k : Int) := of_decide_eq_false hj2; have hj : j ≤ k := hj; omega
          (repeat first | refine And.intro rfl ?_ | refine And.intro (fun _ => ?_) (fun h => Bool.noConfusion h) | refine And.intro (fun h => Bool.noConfusion h) (fun _ => ?_) | (with_reducible refine frc_bytesL (by first | omega | decide) ?_) | (with_reducible refine frc_bytesM (by first | omega | decide) ?_) | refine And.intro (by decide) ?_ | refine And.intro (by omega) ?_)
          refine ⟨.tup [.c (.sl 10 0 0 B.length c4), .c (.int .i64 0)], prB h P iv Kk K2 H (cnt + (((0 : Nat) + 15) / 16 : Nat) + 1 + 1) ++ [lsC (maskL R (hidB h.sp) at_ j B) c4], ⟨[0, 1, 2, 3, 4, 5, 6, 7, 8, 9, 10], ⟨rfl, rfl, rfl⟩, ?_⟩, fun e => absurd hE0 e, fun _ => ⟨c4, cnt + (((0 : Nat) + 15) / 16 : Nat) + 1 + 1, by omega, by omega, by omega, rfl, rfl⟩⟩
          (repeat first | exact trivial | refine ent1 ?_)
          refine eqC_bts (eqC_bts (eqC_bts (eqC_bts (eqC_bts ?_))))
          (repeat first | exact trivial | refine ent1 ?_)
          refine ⟨fun i' hi' => eqC_bytes (fun i hi => ?_) i', trivial⟩
          rw [maskL_len] at hi
          have := winF_at 0 B.length (L (maskL R (hidB h.sp) at_ j B)) hi
          rw [Nat.zero_add] at this
          exact this
      · obtain ⟨hqc, j, hqj, hjk⟩ := hx
        have hqc : q.length ≤ c := hqc
        have lq : q.length = P.l.length + j := by rw [hqj, List.length_append, List.length_replicate]
        by_cases h4 : q.length + k < 4
        · have d4 : decide ((q.length : Int) + (g.n.l.length : Int) < 4) = true := decide_eq_true (by omega)
          (repeat first | refine And.intro rfl ?_ | refine And.intro (fun _ => ?_) (fun h => absurd h (by rw [d4]; decide)) | refine And.intro (fun h => absurd h (by rw [d4]; decide)) (fun _ => ?_) | refine And.intro (fun _ => ?_) (fun h => Bool.noConfusion h) | refine And.intro (fun h => Bool.noConfusion h) (fun _ => ?_) | (with_reducible refine frc_bytesL (by first | omega | decide) ?_) | (with_reducible refine frc_bytesM (by first | omega | decide) ?_) | refine And.intro (by decide) ?_ | refine And.intro (by omega) ?_)
          refine ⟨⟨hqc, (by show 0 + c ≤ c; omega), by show (q.length + 1) * 1 ≤ 140737488355328; omega⟩, fun c' hc' => ?_⟩
          have lq1 : (q ++ [0#8]).length = q.length + 1 := by rw [List.length_append]; rfl
          refine ⟨some (q ++ [0#8], c'), [0, 1, 2, 3, 4, 5, 6, 7, 8, 9, 10, 11, 12, 13, 14, 17], ⟨⟨rfl, rfl, rfl⟩, ?_⟩, ⟨(by show (q ++ [0#8]).length ≤ c'; omega), j + 1, by rw [List.replicate_succ', ← List.append_assoc, ← hqj], .inr (by show (q ++ [0#8]).length + k ≤ 4; omega)⟩, by show 4 - (q ++ [0#8]).length < 4 - q.length; omega⟩
          (repeat first | exact trivial | refine ent1 ?_)
          first | refine ⟨lq1.symm, rfl, ?_⟩ | skip
          (repeat first | exact trivial | refine ent1 ?_)
          refine eqC_bts (eqC_bts (eqC_bts (eqC_bts (eqC_bts ?_))))
          (repeat first | exact trivial | refine ent1 ?_)
          refine eqC_bts (eqC_bts (eqC_bts (eqC_bts ?_)))
          (repeat first | exact trivial | refine ent1 ?_)
          refine ⟨fun i hi => eqC_bytes (fun i hi => ?_) i, trivial⟩
          exact app_row (l := q) (m := [0#8]) rfl rfl (fun i hi => bytesF_lt hi) (fun i hi => one_row rfl i hi) i (by rw [lq1] at hi; exact hi)
        have d4 : decide ((q.length : Int) + (g.n.l.length : Int) < 4) = false := decide_eq_false (by omega)
        (repeat first | refine And.intro rfl ?_ | refine And.intro (fun _ => ?_) (fun h => absurd h (by rw [d4]; decide)) | refine And.intro (fun h => absurd h (by rw [d4]; decide)) (fun _ => ?_) | refine And.intro (fun _ => ?_) (fun h => Bool.noConfusion h) | refine And.intro (fun h => Bool.noConfusion h) (fun _ => ?_) | (with_reducible refine frc_bytesL (by first | omega | decide) ?_) | (with_reducible refine frc_bytesM (by first | omega | decide) ?_) | refine And.intro (by decide) ?_ | refine And.intro (by omega) ?_)
        obtain rfl : q = pl := by
          rw [hqj, ← hpl]
          rw [show j = 4 - k - P.l.length by omega]
        (repeat first | refine And.intro rfl ?_ | refine And.intro (fun _ => ?_) (fun h => Bool.noConfusion h) | refine And.intro (fun h => Bool.noConfusion h) (fun _ => ?_) | (with_reducible refine frc_bytesL (by first | omega | decide) ?_) | (with_reducible refine frc_bytesM (by first | omega | decide) ?_) | refine And.intro (by decide) ?_ | refine And.intro (by omega) ?_)
        have hq16 : ((q.length : Int) + 16).toNat = q.length + 16 := by omega
        refine call_same (fn_hput g hg ((q.length : Int) + 16)) [11, 12, 13, 14] rfl (by (repeat first | exact trivial | refine ent1 ?_)) ?_ (fun _ _ => trivial) ?_
        · refine eqC_bts (eqC_bts (eqC_bts (eqC_bts ?_)))
          (repeat first | exact trivial | refine ent1 ?_)
        rintro x hs ⟨hbad, hok⟩
        have hpe : putE g ((q.length : Int) + 16) = pE := by rw [putE_congr gq]; exact hpE
        rw [hpe] at hbad hok
        by_cases hE0 : pE = 0
        rotate_left
        · obtain ⟨rfl, rfl⟩ := hbad hE0
          have dE : decide (pE ≠ 0) = true := decide_eq_true hE0
          (repeat first | refine And.intro rfl ?_ | refine And.intro (fun _ => ?_) (fun h => absurd h (by rw [dE]; decide)) | refine And.intro (fun h => absurd h (by rw [dE]; decide)) (fun _ => ?_) | refine And.intro (fun _ => ?_) (fun h => Bool.noConfusion h) | refine And.intro (fun h => Bool.noConfusion h) (fun _ => ?_) | (with_reducible refine frc_bytesL (by first | omega | decide) ?_) | (with_reducible refine frc_bytesM (by first | omega | decide) ?_) | refine And.intro (by decide) ?_ | refine And.intro (by omega) ?_)
          refine ⟨.tup [.c (.slc none 0 0), .c (.int .i64 pE)], prB h P iv Kk K2 H cnt, ⟨[0, 1, 2, 3, 4, 5, 6, 7, 8, 9], ⟨rfl, rfl, rfl⟩, ?_⟩, fun _ => ⟨rfl, rfl⟩, fun e => absurd e hE0⟩
          (repeat first | exact trivial | refine ent1 ?_)
          refine eqC_bts (eqC_bts (eqC_bts (eqC_bts (eqC_bts ?_))))
          (repeat first | exact trivial | refine ent1 ?_)
        obtain ⟨c1, hc1, rfl, rfl⟩ := hok hE0
        rw [hq16, putH_congr gq, show putH hN (q.length + 16) = op from hop]
        rw [hq16, putH_congr gq, show putH hN (q.length + 16) = op from hop] at hc1
        (repeat first | refine And.intro rfl ?_ | refine And.intro (fun _ => ?_) (fun h => Bool.noConfusion h) | refine And.intro (fun h => Bool.noConfusion h) (fun _ => ?_) | (with_reducible refine frc_bytesL (by first | omega | decide) ?_) | (with_reducible refine frc_bytesM (by first | omega | decide) ?_) | refine And.intro (by decide) ?_ | refine And.intro (by omega) ?_)
        refine call_same (fn_kseal false false c1 c 0 0 op.length q.length c1 c op q S cnt kq Kk iv n E hKk hE H hS rfl (by omega) hc1 (fun h => Bool.noConfusion h) (by omega) rfl (by omega) hqc (fun h => Bool.noConfusion h) (by omega) (by omega)) [16, 15, 5, 6, 7, 8] rfl (by (repeat first | exact trivial | refine ent1 ?_)) ?_ (fun _ _ => trivial) ?_
        · (repeat first | exact trivial | refine ent1 ?_)
          refine ⟨fun j hj => eqC_winBM (Nat.le_refl _), ?_⟩
          (repeat first | exact trivial | refine ent1 ?_)
        rintro x hs' ⟨c2, hc2, rfl, rfl⟩
        have d13 : decide (((q.length + 16 : Nat) : Int) < (q.length : Int) + 16) = false := decide_eq_false (by omega)
        (repeat first | refine And.intro rfl ?_ | refine And.intro (fun _ => ?_) (fun h => absurd h (by rw [d13]; decide)) | refine And.intro (fun h => absurd h (by rw [d13]; decide)) (fun _ => ?_) | refine And.intro (fun _ => ?_) (fun h => Bool.noConfusion h) | refine And.intro (fun h => Bool.noConfusion h) (fun _ => ?_) | (with_reducible refine frc_bytesL (by first | omega | decide) ?_) | (with_reducible refine frc_bytesM (by first | omega | decide) ?_) | refine And.intro (by decide) ?_ | refine And.intro (by omega) ?_)
        refine call_same (fn_bclone_sl op c1 hc1 (by omega)) [16] rfl (by (repeat first | exact trivial | refine ent1 ?_)) (by (repeat first | exact trivial | refine ent1 ?_)) (fun _ _ => trivial) ?_
        rintro x hs' ⟨c3, hc3, rfl, rfl⟩
        have lB : (op ++ S).length = op.length + (q.length + 16) := by rw [List.length_append, lS]
        (repeat first | refine And.intro rfl ?_ | refine And.intro (fun _ => ?_) (fun h => Bool.noConfusion h) | refine And.intro (fun h => Bool.noConfusion h) (fun _ => ?_) | (with_reducible refine frc_bytesL (by first | omega | decide) ?_) | (with_reducible refine frc_bytesM (by first | omega | decide) ?_) | refine And.intro (by decide) ?_ | refine And.intro (by omega) ?_)
        refine ⟨(show 0 + (q.length + 16) ≤ c2 by omega), ?_⟩
        refine ⟨⟨hc3, (show 0 + c3 ≤ c3 by omega), (show (op.length + (q.length + 16)) * 1 ≤ 140737488355328 by omega)⟩, fun c4 hc4 => ?_⟩
        (repeat first | refine And.intro rfl ?_ | refine And.intro (fun _ => ?_) (fun h => Bool.noConfusion h) | refine And.intro (fun h => Bool.noConfusion h) (fun _ => ?_) | (with_reducible refine frc_bytesL (by first | omega | decide) ?_) | (with_reducible refine frc_bytesM (by first | omega | decide) ?_) | refine And.intro (by decide) ?_ | refine And.intro (by omega) ?_)
        obtain ⟨B, hB⟩ : ∃ B, op ++ S = B := ⟨_, rfl⟩
        have rowB : ∀ {g1 g2 : Nat → Nat} (i : Nat), i < B.length → appF (fun j => SC.mp g1 (bytesF op.length (L op) j)) 0 (scale op.length (0 + 1)) (scale (q.length + 16) (0 + 1)) (fun q' => SC.mp g2 (bytesF (q.length + 16) (L S) (q' + 0))) i = .w8 (L B i) := by
          intro g1 g2 i hi
          rw [← hB]
          exact app_row (l := op) (m := S) rfl lS (fun i hi => by show SC.mp _ (bytesF op.length (L op) i) = _; rw [bytesF_lt hi]; rfl) (fun i hi => by show SC.mp _ (bytesF (q.length + 16) (L S) i) = _; rw [bytesF_lt hi]; rfl) i (by rw [← lB, hB]; exact hi)
        rw [hB] at hR lB ⊢
        have oB : Sl.Ok ⟨false, c4, 0, c4, B⟩ := own_ok (by omega) (by omega)
        refine call_same (fn_maskOf ⟨false, c4, 0, c4, B⟩ oB at_ (by show at_ + 20 ≤ B.length; omega) (cnt + ((q.length + 15) / 16 : Nat) + 1) kh K2 R hK2 hR (by omega)) [19, 5, 6, 9] rfl ?_ ?_ (fun _ _ => trivial) ?_
        · (repeat first | exact trivial | refine ent1 ?_)
          refine ⟨lB.symm, rfl, ?_⟩
          (repeat first | exact trivial | refine ent1 ?_)
        · rw [svB_row (s := ⟨false, c4, 0, c4, B⟩) rfl]
          refine ⟨rfl, fun j hj => eqC_win0 (fun i hi => rowB i hi) j, ?_⟩
          (repeat first | exact trivial | refine ent1 ?_)
        rintro x hs' ⟨rfl, rfl⟩
        (repeat first | refine And.intro rfl ?_ | refine And.intro (fun _ => ?_) (fun h => Bool.noConfusion h) | refine And.intro (fun h => Bool.noConfusion h) (fun _ => ?_) | (with_reducible refine frc_bytesL (by first | omega | decide) ?_) | (with_reducible refine frc_bytesM (by first | omega | decide) ?_) | refine And.intro (by decide) ?_ | refine And.intro (by omega) ?_)
        refine ⟨some [10, 19, 20], [], [(0, true), (1, true), (2, true), (3, true), (4, true), (5, true), (6, true), (7, false), (8, true), (9, true), (10, true)], [11], by kernel_rfl, ?_⟩
        refine And.intro (show (0 : Int) ≤ 0 ∧ (0 : Int) < ((op.length + (q.length + 16) : Nat) : Int) by omega) ?_
        refine And.intro (show 0 < c4 by omega) ?_
        refine frc_eq (rowB 0 (by omega)) ?_
        (repeat first | refine And.intro rfl ?_ | refine And.intro (fun _ => ?_) (fun h => Bool.noConfusion h) | refine And.intro (fun h => Bool.noConfusion h) (fun _ => ?_) | (with_reducible refine frc_bytesL (by first | omega | decide) ?_) | (with_reducible refine frc_bytesM (by first | omega | decide) ?_) | refine And.intro (by decide) ?_ | refine And.intro (by omega) ?_)
        refine call_same (fn_hidden g.sp) [] rfl (by (repeat first | exact trivial | refine ent1 ?_)) trivial (fun _ _ => trivial) ?_
        rintro x hs' ⟨rfl, rfl⟩
        (repeat first | refine And.intro rfl ?_ | refine And.intro (fun _ => ?_) (fun h => Bool.noConfusion h) | refine And.intro (fun h => Bool.noConfusion h) (fun _ => ?_) | (with_reducible refine frc_bytesL (by first | omega | decide) ?_) | (with_reducible refine frc_bytesM (by first | omega | decide) ?_) | refine And.intro (by decide) ?_ | refine And.intro (by omega) ?_)
        refine And.intro (show 0 < c4 by omega) ?_
        (repeat first | refine And.intro rfl ?_ | refine And.intro (fun _ => ?_) (fun h => Bool.noConfusion h) | refine And.intro (fun h => Bool.noConfusion h) (fun _ => ?_) | (with_reducible refine frc_bytesL (by first | omega | decide) ?_) | (with_reducible refine frc_bytesM (by first | omega | decide) ?_) | refine And.intro (by decide) ?_ | refine And.intro (by omega) ?_)
        refine .inl ⟨Nat, fun j => ⟨[.any, .any, .any, .any, .any, .any, .any, .any, .any, .any, .any, .any, .any, .any, .any, .any, .a (.c (.int .i64 (↑at_))), .a (.c (.sl 10 0 0 B.length c4)), .a (.c (.p 11 0 0)), .any, .any, .any, .any, .any, .any, .any, .any, .any, .any, .any, .any, .any, .any, .any, .any, .any, .any, .any, .any, .any, .any, .any, .any, .any, .any, .any, .any, .any, .any, .any, .any, .any, .any, .any, .any, .any, .any, .any, .any, .any, .any, .any, .any, .any, .any, .any, .any, .any, .any, .any, .any, .any, .any, .any, .any, .any, .any, .any, .any, .any, .any, .any, .any, .any, .any, .any, .any, .any, .any, .a (.c (.int .i64 (↑k))), .a (.c (.int .i64 (↑j))), .any, .any, .any, .any, .any, .any, .any, .any, .any, .any, .any, .any, .any, .any, .any, .any], [svB h.t, svB h.f, svB h.k, svB h.n, svB P, kyV 8 9 iv, tabs 1 0 boxes (cnt + ((q.length + 15) / 16 : Nat) + 1 + 1), keyD 6 Kk, sealC 7 H, keyD 6 K2, [.row c4 (winF 0 B.length (L (maskL R (hidB h.sp) at_ j B)))], [.row 5 fun i => .w8 (R i)]]⟩, fun j => j ≤ k, fun j => k - j, ⟨0, [0, 1, 2, 3, 4, 5, 6, 7, 8, 9, 19, 20], ⟨⟨rfl, rfl, rfl⟩, ?_⟩, Nat.zero_le _⟩, fun j hj => ⟨fun hj1 => ?_, fun hj2 => ?_⟩⟩
        · (repeat first | exact trivial | refine ent1 ?_)
          refine eqC_bts (eqC_bts (eqC_bts (eqC_bts (eqC_bts ?_))))
          (repeat first | exact trivial | refine ent1 ?_)
          refine ⟨fun j hj => eqC_win0 (fun i hi => mask_startF rowB rfl rfl (by rw [g1]; rfl) i hi) j, ?_⟩
          (repeat first | exact trivial | refine ent1 ?_)
        · have hlt : j < k := by have : (j : Int) < (k : Int) := of_decide_eq_true hj1; omega
          (repeat first | refine And.intro rfl ?_ | refine And.intro (fun _ => ?_) (fun h => Bool.noConfusion h) | refine And.intro (fun h => Bool.noConfusion h) (fun _ => ?_) | (with_reducible refine frc_bytesL (by first | omega | decide) ?_) | (with_reducible refine frc_bytesM (by first | omega | decide) ?_) | refine And.intro (by decide) ?_ | refine And.intro (by omega) ?_)
          refine ⟨some [10, 11], [], [(0, true), (1, true), (2, true), (3, true), (4, true), (5, true), (6, true), (7, true), (8, true), (9, true), (10, true), (11, true)], [12], by kernel_rfl, ?_⟩
          (repeat first | refine And.intro rfl ?_ | refine And.intro (fun _ => ?_) (fun h => Bool.noConfusion h) | refine And.intro (fun h => Bool.noConfusion h) (fun _ => ?_) | (with_reducible refine frc_bytesL (by first | omega | decide) ?_) | (with_reducible refine frc_bytesM (by first | omega | decide) ?_) | refine And.intro (by decide) ?_ | refine And.intro (by omega) ?_)
          with_reducible refine frc_winA (at_ + j) (show ((at_ : Int) + (j : Int)).toNat + 0 = at_ + j + 0 by omega) (by omega) ?_
          (repeat first | refine And.intro rfl ?_ | refine And.intro (fun _ => ?_) (fun h => Bool.noConfusion h) | refine And.intro (fun h => Bool.noConfusion h) (fun _ => ?_) | (with_reducible refine frc_bytesL (by first | omega | decide) ?_) | (with_reducible refine frc_bytesM (by first | omega | decide) ?_) | refine And.intro (by decide) ?_ | refine And.intro (by omega) ?_)
          refine ⟨j + 1, [0, 1, 2, 3, 4, 5, 6, 7, 8, 9, 10, 11], ⟨⟨rfl, rfl, rfl⟩, ?_⟩, by dsimp only; omega, by dsimp only; omega⟩
          (repeat first | exact trivial | refine ent1 ?_)
          refine eqC_bts (eqC_bts (eqC_bts (eqC_bts (eqC_bts ?_))))
          (repeat first | exact trivial | refine ent1 ?_)
          refine ⟨fun i' hi' => eqC_win (fun i hi => mask_step rfl hal.1 (by omega) (show ((at_ : Int) + (j : Int)).toNat + 0 = 0 + (at_ + j) by omega) (by rw [show 1 + j = (1 + (j : Int)).toNat + 0 by omega]) i hi) i', ?_⟩
          (repeat first | exact trivial | refine ent1 ?_)
        · obtain rfl : j = k := by have : ¬ (j : Int) < (k : Int) := of_decide_eq_false hj2; have hj : j ≤ k := hj; omega
          (repeat first | refine And.intro rfl ?_ | refine And.intro (fun _ => ?_) (fun h => Bool.noConfusion h) | refine And.intro (fun h => Bool.noConfusion h) (fun _ => ?_) | (with_reducible refine frc_bytesL (by first | omega | decide) ?_) | (with_reducible refine frc_bytesM (by first | omega | decide) ?_) | refine And.intro (by decide) ?_ | refine And.intro (by omega) ?_)
          refine ⟨.tup [.c (.sl 10 0 0 B.length c4), .c (.int .i64 0)], prB h P iv Kk K2 H (cnt + ((q.length + 15) / 16 : Nat) + 1 + 1) ++ [lsC (maskL R (hidB h.sp) at_ j B) c4], ⟨[0, 1, 2, 3, 4, 5, 6, 7, 8, 9, 10], ⟨rfl, rfl, rfl⟩, ?_⟩, fun e => absurd hE0 e, fun _ => ⟨c4, cnt + ((q.length + 15) / 16 : Nat) + 1 + 1, by omega, by omega, by omega, rfl, rfl⟩⟩
          (repeat first | exact trivial | refine ent1 ?_)
          refine eqC_bts (eqC_bts (eqC_bts (eqC_bts (eqC_bts ?_))))
          (repeat first | exact trivial | refine ent1 ?_)
          refine ⟨fun i' hi' => eqC_bytes (fun i hi => ?_) i', trivial⟩
          rw [maskL_len] at hi
          have := winF_at 0 B.length (L (maskL R (hidB h.sp) at_ j B)) hi
          rw [Nat.zero_add] at this
          exact this
  · have hz : P.z = false := by simpa using hz
    refine call_same (fn_bclone_row P hP hz) [4] rfl (by (repeat first | exact trivial | refine ent1 ?_)) (eqC_bts trivial) (fun _ _ => trivial) ?_
    rintro x hs ⟨c0, hc0, rfl, rfl⟩
    (repeat first | refine And.intro rfl ?_ | refine And.intro (fun _ => ?_) (fun h => Bool.noConfusion h) | refine And.intro (fun h => Bool.noConfusion h) (fun _ => ?_) | (with_reducible refine frc_bytesL (by first | omega | decide) ?_) | (with_reducible refine frc_bytesM (by first | omega | decide) ?_) | refine And.intro (by decide) ?_ | refine And.intro (by omega) ?_)
    refine .inl ⟨Bs × Nat, fun x => ⟨[.a (.c (.p 5 0 0)), .any, .a (.c (.w64 (n))), .any, .any, .any, .a (.c (.p 10 0 0)), .any, .any, .any, .any, .any, .a (.c (.sl 15 0 0 x.1.length x.2)), .any, .any, .any, .any, .any, .any, .any, .any, .any, .any, .any, .any, .any, .any, .any, .any, .any, .any, .any, .any, .any, .any, .any, .any, .any, .any, .any, .any, .any, .any, .any, .any, .any, .any, .any, .any, .any, .any, .any, .any, .any, .any, .any, .any, .any, .any, .any, .any, .any, .any, .any, .any, .any, .any, .any, .any, .any, .any, .any, .any, .any, .any, .any, .any, .any, .any, .any, .any, .any, .any, .any, .any, .any, .any, .any, .any, .any, .any, .any, .any, .any, .any, .any, .any, .any, .any, .any, .any, .any, .any, .any, .any, .any, .any], [svB h.t, svB h.f, svB h.k, svB h.n, svB P, kyV 8 9 iv, tabs 1 0 boxes cnt, keyD 6 Kk, sealC 7 H, keyD 6 K2, hdC 11 12 13 14 g, svB g.t, svB g.f, svB g.k, svB g.n, lsC x.1 x.2]⟩, fun x => plP P.l k (some x), fun x => plM (some x), ⟨(P.l, c0), [0, 1, 2, 3, 4, 5, 6, 7, 8, 9, 10, 11, 12, 13, 14, 15], ⟨⟨rfl, rfl, rfl⟩, ?_⟩, ⟨hc0, 0, by rw [List.replicate_zero, List.append_nil], .inl rfl⟩⟩, fun x hx => ?_⟩
    · (repeat first | exact trivial | refine ent1 ?_)
      refine eqC_bts (eqC_bts (eqC_bts (eqC_bts (eqC_bts ?_))))
      (repeat first | exact trivial | refine ent1 ?_)
      refine eqC_btsM (eqC_btsM (eqC_btsM (eqC_btsM ?_)))
      (repeat first | exact trivial | refine ent1 ?_)
    · obtain ⟨q, c⟩ := x
      dsimp only
      obtain ⟨hqc, j, hqj, hjk⟩ := hx
      have hqc : q.length ≤ c := hqc
      have lq : q.length = P.l.length + j := by rw [hqj, List.length_append, List.length_replicate]
      by_cases h4 : q.length + k < 4
      · have d4 : decide ((q.length : Int) + (g.n.l.length : Int) < 4) = true := decide_eq_true (by omega)
        (repeat first | refine And.intro rfl ?_ | refine And.intro (fun _ => ?_) (fun h => absurd h (by rw [d4]; decide)) | refine And.intro (fun h => absurd h (by rw [d4]; decide)) (fun _ => ?_) | refine And.intro (fun _ => ?_) (fun h => Bool.noConfusion h) | refine And.intro (fun h => Bool.noConfusion h) (fun _ => ?_) | (with_reducible refine frc_bytesL (by first | omega | decide) ?_) | (with_reducible refine frc_bytesM (by first | omega | decide) ?_) | refine And.intro (by decide) ?_ | refine And.intro (by omega) ?_)
        refine ⟨⟨hqc, (by show 0 + c ≤ c; omega), by show (q.length + 1) * 1 ≤ 140737488355328; omega⟩, fun c' hc' => ?_⟩
        have lq1 : (q ++ [0#8]).length = q.length + 1 := by rw [List.length_append]; rfl
        refine ⟨(q ++ [0#8], c'), [0, 1, 2, 3, 4, 5, 6, 7, 8, 9, 10, 11, 12, 13, 14, 17], ⟨⟨rfl, rfl, rfl⟩, ?_⟩, ⟨(by show (q ++ [0#8]).length ≤ c'; omega), j + 1, by rw [List.replicate_succ', ← List.append_assoc, ← hqj], .inr (by show (q ++ [0#8]).length + k ≤ 4; omega)⟩, by show 4 - (q ++ [0#8]).length < 4 - q.length; omega⟩
        (repeat first | exact trivial | refine ent1 ?_)
        first | refine ⟨lq1.symm, rfl, ?_⟩ | skip
        (repeat first | exact trivial | refine ent1 ?_)
        refine eqC_bts (eqC_bts (eqC_bts (eqC_bts (eqC_bts ?_))))
        (repeat first | exact trivial | refine ent1 ?_)
        refine eqC_bts (eqC_bts (eqC_bts (eqC_bts ?_)))
        (repeat first | exact trivial | refine ent1 ?_)
        refine ⟨fun i hi => eqC_bytes (fun i hi => ?_) i, trivial⟩
        exact app_row (l := q) (m := [0#8]) rfl rfl (fun i hi => bytesF_lt hi) (fun i hi => one_row rfl i hi) i (by rw [lq1] at hi; exact hi)
      have d4 : decide ((q.length : Int) + (g.n.l.length : Int) < 4) = false := decide_eq_false (by omega)
      (repeat first | refine And.intro rfl ?_ | refine And.intro (fun _ => ?_) (fun h => absurd h (by rw [d4]; decide)) | refine And.intro (fun h => absurd h (by rw [d4]; decide)) (fun _ => ?_) | refine And.intro (fun _ => ?_) (fun h => Bool.noConfusion h) | refine And.intro (fun h => Bool.noConfusion h) (fun _ => ?_) | (with_reducible refine frc_bytesL (by first | omega | decide) ?_) | (with_reducible refine frc_bytesM (by first | omega | decide) ?_) | refine And.intro (by decide) ?_ | refine And.intro (by omega) ?_)
      obtain rfl : q = pl := by
        rw [hqj, ← hpl]
        rw [show j = 4 - k - P.l.length by omega]
      (repeat first | refine And.intro rfl ?_ | refine And.intro (fun _ => ?_) (fun h => Bool.noConfusion h) | refine And.intro (fun h => Bool.noConfusion h) (fun _ => ?_) | (with_reducible refine frc_bytesL (by first | omega | decide) ?_) | (with_reducible refine frc_bytesM (by first | omega | decide) ?_) | refine And.intro (by decide) ?_ | refine And.intro (by omega) ?_)
      have hq16 : ((q.length : Int) + 16).toNat = q.length + 16 := by omega
      refine call_same (fn_hput g hg ((q.length : Int) + 16)) [11, 12, 13, 14] rfl (by (repeat first | exact trivial | refine ent1 ?_)) ?_ (fun _ _ => trivial) ?_
      · refine eqC_bts (eqC_bts (eqC_bts (eqC_bts ?_)))
        (repeat first | exact trivial | refine ent1 ?_)
      rintro x hs ⟨hbad, hok⟩
      have hpe : putE g ((q.length : Int) + 16) = pE := by rw [putE_congr gq]; exact hpE
      rw [hpe] at hbad hok
      by_cases hE0 : pE = 0
      rotate_left
      · obtain ⟨rfl, rfl⟩ := hbad hE0
        have dE : decide (pE ≠ 0) = true := decide_eq_true hE0
        (repeat first | refine And.intro rfl ?_ | refine And.intro (fun _ => ?_) (fun h => absurd h (by rw [dE]; decide)) | refine And.intro (fun h => absurd h (by rw [dE]; decide)) (fun _ => ?_) | refine And.intro (fun _ => ?_) (fun h => Bool.noConfusion h) | refine And.intro (fun h => Bool.noConfusion h) (fun _ => ?_) | (with_reducible refine frc_bytesL (by first | omega | decide) ?_) | (with_reducible refine frc_bytesM (by first | omega | decide) ?_) | refine And.intro (by decide) ?_ | refine And.intro (by omega) ?_)
        refine ⟨.tup [.c (.slc none 0 0), .c (.int .i64 pE)], prB h P iv Kk K2 H cnt, ⟨[0, 1, 2, 3, 4, 5, 6, 7, 8, 9], ⟨rfl, rfl, rfl⟩, ?_⟩, fun _ => ⟨rfl, rfl⟩, fun e => absurd e hE0⟩
        (repeat first | exact trivial | refine ent1 ?_)
        refine eqC_bts (eqC_bts (eqC_bts (eqC_bts (eqC_bts ?_))))
        (repeat first | exact trivial | refine ent1 ?_)
      obtain ⟨c1, hc1, rfl, rfl⟩ := hok hE0
      rw [hq16, putH_congr gq, show putH hN (q.length + 16) = op from hop]
      rw [hq16, putH_congr gq, show putH hN (q.length + 16) = op from hop] at hc1
      (repeat first | refine And.intro rfl ?_ | refine And.intro (fun _ => ?_) (fun h => Bool.noConfusion h) | refine And.intro (fun h => Bool.noConfusion h) (fun _ => ?_) | (with_reducible refine frc_bytesL (by first | omega | decide) ?_) | (with_reducible refine frc_bytesM (by first | omega | decide) ?_) | refine And.intro (by decide) ?_ | refine And.intro (by omega) ?_)
      refine call_same (fn_kseal false false c1 c 0 0 op.length q.length c1 c op q S cnt kq Kk iv n E hKk hE H hS rfl (by omega) hc1 (fun h => Bool.noConfusion h) (by omega) rfl (by omega) hqc (fun h => Bool.noConfusion h) (by omega) (by omega)) [16, 15, 5, 6, 7, 8] rfl (by (repeat first | exact trivial | refine ent1 ?_)) ?_ (fun _ _ => trivial) ?_
      · (repeat first | exact trivial | refine ent1 ?_)
        refine ⟨fun j hj => eqC_winBM (Nat.le_refl _), ?_⟩
        (repeat first | exact trivial | refine ent1 ?_)
      rintro x hs' ⟨c2, hc2, rfl, rfl⟩
      have d13 : decide (((q.length + 16 : Nat) : Int) < (q.length : Int) + 16) = false := decide_eq_false (by omega)
      (repeat first | refine And.intro rfl ?_ | refine And.intro (fun _ => ?_) (fun h => absurd h (by rw [d13]; decide)) | refine And.intro (fun h => absurd h (by rw [d13]; decide)) (fun _ => ?_) | refine And.intro (fun _ => ?_) (fun h => Bool.noConfusion h) | refine And.intro (fun h => Bool.noConfusion h) (fun _ => ?_) | (with_reducible refine frc_bytesL (by first | omega | decide) ?_) | (with_reducible refine frc_bytesM (by first | omega | decide) ?_) | refine And.intro (by decide) ?_ | refine And.intro (by omega) ?_)
      refine call_same (fn_bclone_sl op c1 hc1 (by omega)) [16] rfl (by (repeat first | exact trivial | refine ent1 ?_)) (by (repeat first | exact trivial | refine ent1 ?_)) (fun _ _ => trivial) ?_
      rintro x hs' ⟨c3, hc3, rfl, rfl⟩
      have lB : (op ++ S).length = op.length + (q.length + 16) := by rw [List.length_append, lS]
      (repeat first | refine And.intro rfl ?_ | refine And.intro (fun _ => ?_) (fun h => Bool.noConfusion h) | refine And.intro (fun h => Bool.noConfusion h) (fun _ => ?_) | (with_reducible refine frc_bytesL (by first | omega | decide) ?_) | (with_reducible refine frc_bytesM (by first | omega | decide) ?_) | refine And.intro (by decide) ?_ | refine And.intro (by omega) ?_)
      refine ⟨(show 0 + (q.length + 16) ≤ c2 by omega), ?_⟩
      refine ⟨⟨hc3, (show 0 + c3 ≤ c3 by omega), (show (op.length + (q.length + 16)) * 1 ≤ 140737488355328 by omega)⟩, fun c4 hc4 => ?_⟩
      (repeat first | refine And.intro rfl ?_ | refine And.intro (fun _ => ?_) (fun h => Bool.noConfusion h) | refine And.intro (fun h => Bool.noConfusion h) (fun _ => ?_) | (with_reducible refine frc_bytesL (by first | omega | decide) ?_) | (with_reducible refine frc_bytesM (by first | omega | decide) ?_) | refine And.intro (by decide) ?_ | refine And.intro (by omega) ?_)
      obtain ⟨B, hB⟩ : ∃ B, op ++ S = B := ⟨_, rfl⟩
      have rowB : ∀ {g1 g2 : Nat → Nat} (i : Nat), i < B.length → appF (fun j => SC.mp g1 (bytesF op.length (L op) j)) 0 (scale op.length (0 + 1)) (scale (q.length + 16) (0 + 1)) (fun q' => SC.mp g2 (bytesF (q.length + 16) (L S) (q' + 0))) i = .w8 (L B i) := by
        intro g1 g2 i hi
        rw [← hB]
        exact app_row (l := op) (m := S) rfl lS (fun i hi => by show SC.mp _ (bytesF op.length (L op) i) = _; rw [bytesF_lt hi]; rfl) (fun i hi => by show SC.mp _ (bytesF (q.length + 16) (L S) i) = _; rw [bytesF_lt hi]; rfl) i (by rw [← lB, hB]; exact hi)
      rw [hB] at hR lB ⊢
      have oB : Sl.Ok ⟨false, c4, 0, c4, B⟩ := own_ok (by omega) (by omega)
      refine call_same (fn_maskOf ⟨false, c4, 0, c4, B⟩ oB at_ (by show at_ + 20 ≤ B.length; omega) (cnt + ((q.length + 15) / 16 : Nat) + 1) kh K2 R hK2 hR (by omega)) [19, 5, 6, 9] rfl ?_ ?_ (fun _ _ => trivial) ?_
      · (repeat first | exact trivial | refine ent1 ?_)
        refine ⟨lB.symm, rfl, ?_⟩
        (repeat first | exact trivial | refine ent1 ?_)
      · rw [svB_row (s := ⟨false, c4, 0, c4, B⟩) rfl]
        refine ⟨rfl, fun j hj => eqC_win0 (fun i hi => rowB i hi) j, ?_⟩
        (repeat first | exact trivial | refine ent1 ?_)
      rintro x hs' ⟨rfl, rfl⟩
      (repeat first | refine And.intro rfl ?_ | refine And.intro (fun _ => ?_) (fun h => Bool.noConfusion h) | refine And.intro (fun h => Bool.noConfusion h) (fun _ => ?_) | (with_reducible refine frc_bytesL (by first | omega | decide) ?_) | (with_reducible refine frc_bytesM (by first | omega | decide) ?_) | refine And.intro (by decide) ?_ | refine And.intro (by omega) ?_)
      refine ⟨some [10, 19, 20], [], [(0, true), (1, true), (2, true), (3, true), (4, true), (5, true), (6, true), (7, false), (8, true), (9, true), (10, true)], [11], by kernel_rfl, ?_⟩
      refine And.intro (show (0 : Int) ≤ 0 ∧ (0 : Int) < ((op.length + (q.length + 16) : Nat) : Int) by omega) ?_
      refine And.intro (show 0 < c4 by omega) ?_
      refine frc_eq (rowB 0 (by omega)) ?_
      (repeat first | refine And.intro rfl ?_ | refine And.intro (fun _ => ?_) (fun h => Bool.noConfusion h) | refine And.intro (fun h => Bool.noConfusion h) (fun _ => ?_) | (with_reducible refine frc_bytesL (by first | omega | decide) ?_) | (with_reducible refine frc_bytesM (by first | omega | decide) ?_) | refine And.intro (by decide) ?_ | refine And.intro (by omega) ?_)
      refine call_same (fn_hidden g.sp) [] rfl (by (repeat first | exact trivial | refine ent1 ?_)) trivial (fun _ _ => trivial) ?_
      rintro x hs' ⟨rfl, rfl⟩
      (repeat first | refine And.intro rfl ?_ | refine And.intro (fun _ => ?_) (fun h => Bool.noConfusion h) | refine And.intro (fun h => Bool.noConfusion h) (fun _ => ?_) | (with_reducible refine frc_bytesL (by first | omega | decide) ?_) | (with_reducible refine frc_bytesM (by first | omega | decide) ?_) | refine And.intro (by decide) ?_ | refine And.intro (by omega) ?_)
      refine And.intro (show 0 < c4 by omega) ?_
      (repeat first | refine And.intro rfl ?_ | refine And.intro (fun _ => ?_) (fun h => Bool.noConfusion h) | refine And.intro (fun h => Bool.noConfusion h) (fun _ => ?_) | (with_reducible refine frc_bytesL (by first | omega | decide) ?_) | (with_reducible refine frc_bytesM (by first | omega | decide) ?_) | refine And.intro (by decide) ?_ | refine And.intro (by omega) ?_)
      refine .inl ⟨Nat, fun j => ⟨[.any, .any, .any, .any, .any, .any, .any, .any, .any, .any, .any, .any, .any, .any, .any, .any, .a (.c (.int .i64 (↑at_))), .a (.c (.sl 10 0 0 B.length c4)), .a (.c (.p 11 0 0)), .any, .any, .any, .any, .any, .any, .any, .any, .any, .any, .any, .any, .any, .any, .any, .any, .any, .any, .any, .any, .any, .any, .any, .any, .any, .any, .any, .any, .any, .any, .any, .any, .any, .any, .any, .any, .any, .any, .any, .any, .any, .any, .any, .any, .any, .any, .any, .any, .any, .any, .any, .any, .any, .any, .any, .any, .any, .any, .any, .any, .any, .any, .any, .any, .any, .any, .any, .any, .any, .any, .a (.c (.int .i64 (↑k))), .a (.c (.int .i64 (↑j))), .any, .any, .any, .any, .any, .any, .any, .any, .any, .any, .any, .any, .any, .any, .any, .any], [svB h.t, svB h.f, svB h.k, svB h.n, svB P, kyV 8 9 iv, tabs 1 0 boxes (cnt + ((q.length + 15) / 16 : Nat) + 1 + 1), keyD 6 Kk, sealC 7 H, keyD 6 K2, [.row c4 (winF 0 B.length (L (maskL R (hidB h.sp) at_ j B)))], [.row 5 fun i => .w8 (R i)]]⟩, fun j => j ≤ k, fun j => k - j, ⟨0, [0, 1, 2, 3, 4, 5, 6, 7, 8, 9, 19, 20], ⟨⟨rfl, rfl, rfl⟩, ?_⟩, Nat.zero_le _⟩, fun j hj => ⟨fun hj1 => ?_, fun hj2 => ?_⟩⟩
      · (repeat first | exact trivial | refine ent1 ?_)
        refine eqC_bts (eqC_bts (eqC_bts (eqC_bts (eqC_bts ?_))))
        (repeat first | exact trivial | refine ent1 ?_)
        refine ⟨fun j hj => eqC_win0 (fun i hi => mask_startF rowB rfl rfl (by rw [g1]; rfl) i hi) j, ?_⟩
        (repeat first | exact trivial | refine ent1 ?_)
      · have hlt : j < k := by have : (j : Int) < (k : Int) := of_decide_eq_true hj1; omega
        (repeat first | refine And.intro rfl ?_ | refine And.intro (fun _ => ?_) (fun h => Bool.noConfusion h) | refine And.intro (fun h => Bool.noConfusion h) (fun _ => ?_) | (with_reducible refine frc_bytesL (by first | omega | decide) ?_) | (with_reducible refine frc_bytesM (by first | omega | decide) ?_) | refine And.intro (by decide) ?_ | refine And.intro (by omega) ?_)
        refine ⟨some [10, 11], [], [(0, true), (1, true), (2, true), (3, true), (4, true), (5, true), (6, true), (7, true), (8, true), (9, true), (10, true), (11, true)], [12], by kernel_rfl, ?_⟩
        (repeat first | refine And.intro rfl ?_ | refine And.intro (fun _ => ?_) (fun h => Bool.noConfusion h) | refine And.intro (fun h => Bool.noConfusion h) (fun _ => ?_) | (with_reducible refine frc_bytesL (by first | omega | decide) ?_) | (with_reducible refine frc_bytesM (by first | omega | decide) ?_) | refine And.intro (by decide) ?_ | refine And.intro (by omega) ?_)
        with_reducible refine frc_winA (at_ + j) (show ((at_ : Int) + (j : Int)).toNat + 0 = at_ + j + 0 by omega) (by omega) ?_
        (repeat first | refine And.intro rfl ?_ | refine And.intro (fun _ => ?_) (fun h => Bool.noConfusion h) | refine And.intro (fun h => Bool.noConfusion h) (fun _ => ?_) | (with_reducible refine frc_bytesL (by first | omega | decide) ?_) | (with_reducible refine frc_bytesM (by first | omega | decide) ?_) | refine And.intro (by decide) ?_ | refine And.intro (by omega) ?_)
        refine ⟨j + 1, [0, 1, 2, 3, 4, 5, 6, 7, 8, 9, 10, 11], ⟨⟨rfl, rfl, rfl⟩, ?_⟩, by dsimp only; omega, by dsimp only; omega⟩
        (repeat first | exact trivial | refine ent1 ?_)
        refine eqC_bts (eqC_bts (eqC_bts (eqC_bts (eqC_bts ?_))))
        (repeat first | exact trivial | refine ent1 ?_)
        refine ⟨fun i' hi' => eqC_win (fun i hi => mask_step rfl hal.1 (by omega) (show ((at_ : Int) + (j : Int)).toNat + 0 = 0 + (at_ + j) by omega) (by rw [show 1 + j = (1 + (j : Int)).toNat + 0 by omega]) i hi) i', ?_⟩
        (repeat first | exact trivial | refine ent1 ?_)
      · obtain rfl : j = k := by have : ¬ (j : Int) < (k : Int) := of_decide_eq_false hj2; have hj : j ≤ k := hj; omega
        (repeat first | refine And.intro rfl ?_ | refine And.intro (fun _ => ?_) (fun h => Bool.noConfusion h) | refine And.intro (fun h => Bool.noConfusion h) (fun _ => ?_) | (with_reducible refine frc_bytesL (by first | omega | decide) ?_) | (with_reducible refine frc_bytesM (by first | omega | decide) ?_) | refine And.intro (by decide) ?_ | refine And.intro (by omega) ?_)
        refine ⟨.tup [.c (.sl 10 0 0 B.length c4), .c (.int .i64 0)], prB h P iv Kk K2 H (cnt + ((q.length + 15) / 16 : Nat) + 1 + 1) ++ [lsC (maskL R (hidB h.sp) at_ j B) c4], ⟨[0, 1, 2, 3, 4, 5, 6, 7, 8, 9, 10], ⟨rfl, rfl, rfl⟩, ?_⟩, fun e => absurd hE0 e, fun _ => ⟨c4, cnt + ((q.length + 15) / 16 : Nat) + 1 + 1, by omega, by omega, by omega, rfl, rfl⟩⟩
        (repeat first | exact trivial | refine ent1 ?_)
        refine eqC_bts (eqC_bts (eqC_bts (eqC_bts (eqC_bts ?_))))
        (repeat first | exact trivial | refine ent1 ?_)
        refine ⟨fun i' hi' => eqC_bytes (fun i hi => ?_) i', trivial⟩
        rw [maskL_len] at hi
        have := winF_at 0 B.length (L (maskL R (hidB h.sp) at_ j B)) hi
        rw [Nat.zero_add] at this
        exact this
end Sx
end Go.Proofs.YtkjdkeolkigibaaGreat
end

section
/-
  Packets, protected and opened: plain. No condition.
-/
namespace Go.Proofs.YtkjdkeolkigibaaGreat
set_option linter.unusedVariables false
namespace Vi
open Sha
theorem mask_and {a m h c : BitVec 8} (hc : h &&& c = 0#8) : (a ^^^ (m &&& h)) &&& c = a &&& c := by
  apply BitVec.eq_of_getLsbD_eq
  intro i hi
  have := congrArg (fun x => x.getLsbD i) hc
  simp only [BitVec.getLsbD_and, BitVec.getLsbD_xor, BitVec.getLsbD_zero] at this ⊢
  cases a.getLsbD i <;> cases m.getLsbD i <;> cases hh : h.getLsbD i <;> cases hcc : c.getLsbD i <;> simp_all
end Vi
namespace Sx
open Sha Vi Gcm
theorem smpB_mask (R : Nat → BitVec 8) (h : BitVec 8) (at_ k : Nat) (b : Bs) (hk : k ≤ 4) : smpB (maskL R h at_ k b) at_ = smpB b at_ := by
  funext i
  unfold smpB
  by_cases hi : at_ + 4 + i < b.length
  · rw [maskL_at hi, if_neg (by omega), if_neg (by omega)]
  · unfold L
    rw [List.getD_eq_getElem?_getD, List.getD_eq_getElem?_getD, List.getElem?_eq_none (by rw [maskL_len]; omega), List.getElem?_eq_none (by omega)]
theorem putH_n2 {h h' : Hd} (e1 : h'.sp = h.sp) (e2 : h'.t.l = h.t.l) (e3 : h'.f.l = h.f.l) (e4 : h'.k.l = h.k.l) (e5 : h'.turn = h.turn) (en : h'.n.l.length = h.n.l.length) (p : Nat) :
    ∃ A : Bs, putH h p = A ++ h.n.l ∧ putH h' p = A ++ h'.n.l ∧ 1 ≤ A.length ∧ L A 0 = fstB h ∧ fstB h' = fstB h := by
  have hf : fstB h' = fstB h := by unfold fstB; rw [e1, e5, en]
  by_cases hs : h.sp = 2#8
  · refine ⟨[fstB h] ++ h.t.l, ?_, ?_, by simp, rfl, hf⟩
    · unfold putH; rw [if_pos hs]
    · unfold putH; rw [if_pos (e1.trans hs), hf, e2]
  · refine ⟨[fstB h, 0#8, 0#8, 0#8, 1#8] ++ [BitVec.ofNat 8 h.t.l.length] ++ h.t.l ++ [BitVec.ofNat 8 h.f.l.length] ++ h.f.l ++ (if h.sp = 0#8 then longL h.k.l else []) ++ wideL (BitVec.ofNat 64 (h.n.l.length + p)) 2, ?_, ?_, by simp, rfl, hf⟩
    · unfold putH; rw [if_neg hs]
    · unfold putH; rw [if_neg (fun q => hs (e1.symm.trans q)), hf, e1, e2, e3, e4, en]
/-- A packet's bytes, whose number (all four bytes of it, at most) and first byte are hidden: parsed. -/
theorem parse_hid {h : Hd} (e : checkM h = 0) {p : Nat} (hp : p ≤ 1000) {r : Bs} (hr : p ≤ r.length) (R : Nat → BitVec 8) :
    parseP (maskL R (hidB h.sp) ((putH h p).length - h.n.l.length) h.n.l.length (putH h p ++ r)) (h.t.l.length : Nat) = .ok h.sp h.t.l h.f.l h.k.l ((putH h p).length - h.n.l.length) (if h.sp = 2#8 then (putH h p ++ r).length else (putH h p).length + p) := by
  obtain ⟨a0, a1, a2, a3, a4, a5⟩ := checkM_0 e
  let h' : Hd := ⟨h.sp, h.t, h.f, h.k, h.turn, ⟨false, 0, 0, 0, tab h.n.l.length fun i => L h.n.l i ^^^ R (1 + i)⟩⟩
  have ln : h'.n.l.length = h.n.l.length := tab_len _ _
  have hn' : ∀ i, i < h.n.l.length → L h'.n.l i = L h.n.l i ^^^ R (1 + i) := fun i hi => L_tab hi
  have e' : checkM h' = 0 := by
    have : checkM h' = checkM h := by
      unfold checkM
      rw [ln]
    rw [this, e]
  obtain ⟨A, q1, q2, q3, q4, q5⟩ := putH_n2 (h := h) (h' := h') rfl rfl rfl rfl rfl ln p
  have hpar := parse_put e' hp hr
  rw [q2, ln] at hpar
  rw [q1]
  have l1 : (A ++ h.n.l).length - h.n.l.length = A.length := by rw [List.length_append, Nat.add_sub_cancel]
  have l2 : (A ++ h'.n.l).length - h.n.l.length = A.length := by rw [List.length_append, ln, Nat.add_sub_cancel]
  have l3 : (A ++ h'.n.l).length = (A ++ h.n.l).length := by rw [List.length_append, List.length_append, ln]
  have l4 : (A ++ h'.n.l ++ r).length = (A ++ h.n.l ++ r).length := by rw [List.length_append, l3, ← List.length_append]
  rw [l2, l3, l4] at hpar
  rw [l1]
  obtain ⟨y, t, hyt⟩ : ∃ y t, A ++ h'.n.l ++ r = y :: t := by
    cases hc : A ++ h'.n.l ++ r with
    | nil => have := congrArg List.length hc; simp only [List.length_append, List.length_nil] at this; omega
    | cons y t => exact ⟨y, t, rfl⟩
  have hy : y = fstB h := by
    have : L (A ++ h'.n.l ++ r) 0 = y := by rw [hyt]; rfl
    rw [← this, L_app1 (by rw [List.length_append]; omega), L_app1 (by omega), q4]
  have hW : maskL R (hidB h.sp) A.length h.n.l.length (A ++ h.n.l ++ r) = (y ^^^ (R 0 &&& hidB h.sp)) :: t := by
    refine ext_L (by rw [maskL_len, ← l4, hyt]; rfl) fun i hi => ?_
    rw [maskL_len] at hi
    rw [maskL_at hi]
    by_cases h0 : i = 0
    · rw [if_pos h0, h0, L_app1 (by rw [List.length_append]; omega), L_app1 (by omega), q4, hy]; rfl
    · rw [if_neg h0]
      obtain ⟨i, rfl⟩ : ∃ j, i = j + 1 := ⟨i - 1, by omega⟩
      have ht : L ((y ^^^ (R 0 &&& hidB h.sp)) :: t) (i + 1) = L (A ++ h'.n.l ++ r) (i + 1) := by rw [hyt]; rfl
      have eB : ∀ (m : Bs) (j : Nat), L (A ++ m ++ r) j = if j < A.length then L A j else if j - A.length < m.length then L m (j - A.length) else L r (j - A.length - m.length) := fun m j => by rw [List.append_assoc, L_app, L_app]
      rw [ht, eB, eB, ln]
      by_cases hA : i + 1 < A.length
      · rw [if_pos hA, if_pos hA, if_neg (by omega)]
      · rw [if_neg hA, if_neg hA]
        by_cases hN : i + 1 - A.length < h.n.l.length
        · rw [if_pos hN, if_pos hN, if_pos (by omega), hn' _ hN]
        · rw [if_neg hN, if_neg hN, if_neg (by omega)]
  rw [hyt] at hpar
  rw [hW, ← hpar]
  have c64 : ∀ x : BitVec 8, hidB x &&& 64#8 = 0#8 := fun x => by unfold hidB; split <;> decide
  have c128 : ∀ x : BitVec 8, hidB x &&& 128#8 = 0#8 := fun x => by unfold hidB; split <;> decide
  refine parse_first (mask_and (c64 _)) (mask_and (c128 _)) (fun hl => ?_) _
  have hs : h.sp ≠ 2#8 := fun q => hl (by rw [hy]; exact (fstB_s e q).2.1)
  refine mask_and ?_
  unfold hidB
  rw [if_neg hs]
  decide
end Sx
end Go.Proofs.YtkjdkeolkigibaaGreat
end

section
/-
  Packets: what was protected, opened: plain. No condition.
-/
namespace Go.Proofs.YtkjdkeolkigibaaGreat
set_option linter.unusedVariables false
namespace Sx
open Sha Vi Gcm
/-- What is known of a packet W, protected by a mask R: op its header, S what is sealed, at_ its number's place, en its end; more lies behind it. -/
structure Packet (hN : Hd) (op S W more pl : Bs) (at_ k en : Nat) (R : Nat → BitVec 8) (E : (Nat → BitVec 8) → Nat → BitVec 8) (H : Gcm.E) (nn : Nat → BitVec 8) : Prop where
  par : parseP (W ++ more) (hN.t.l.length : Nat) = .ok hN.sp hN.t.l hN.f.l hN.k.l at_ en
  len : W.length = en
  le : en ≤ (W ++ more).length
  ha : 1 ≤ at_
  he : at_ + 20 ≤ en
  sz : en = at_ + k + pl.length + 16
  tk : (W ++ more).take en = W
  f0 : L (W ++ more) 0 ^^^ (R 0 &&& hidB hN.sp) = fstB hN
  smp : smpB W at_ = smpB (op ++ S) at_
  back : maskL R (hidB hN.sp) at_ k W = op ++ S
  tn : ((op ++ S).drop at_).take k = hN.n.l
  tA : (op ++ S).take (at_ + k) = op
  tC : (op ++ S).drop (at_ + k) = S
  many : manyB (fstB hN) = k
  none : noneB hN.sp (fstB hN) = 0#8
  turn : (if hN.sp = 2#8 then decide (fstB hN &&& 4#8 ≠ 0#8) else false) = hN.turn
  ts : S.take (en - (at_ + k) - 16) = cryL E nn pl
  tag : ∀ i, i < 16 → L S (en - (at_ + k) - 16 + i) = tagB E H nn op (S.take (en - (at_ + k) - 16)) i
  cry : cryL E nn (S.take (en - (at_ + k) - 16)) = pl
theorem packet {hN : Hd} (e : checkM hN = 0) {k : Nat} (hk : hN.n.l.length = k) {pl : Bs} (h4 : 4 ≤ pl.length + k) (h9 : pl.length ≤ 984) {op S W more : Bs} {E : (Nat → BitVec 8) → Nat → BitVec 8} {H : Gcm.E} {nn : Nat → BitVec 8} (hop : putH hN (pl.length + 16) = op) (hS : sealL E H nn op pl = S)
    {at_ : Nat} (hat : op.length = at_ + k) (R : Nat → BitVec 8) (hW : maskL R (hidB hN.sp) at_ k (op ++ S) = W) (hm : hN.sp = 2#8 → more = []) : Packet hN op S W more pl at_ k (at_ + k + pl.length + 16) R E H nn := by
  obtain ⟨a0, a1, a2, a3, a4, a5⟩ := checkM_0 e
  have lS : S.length = pl.length + 16 := by rw [← hS, sealL_len]
  have lW : W.length = at_ + k + pl.length + 16 := by rw [← hW, maskL_len, List.length_append, hat, lS]; omega
  have lB : (op ++ S).length = at_ + k + pl.length + 16 := by rw [List.length_append, hat, lS]; omega
  obtain ⟨A, q1, q2⟩ := putH_n hN (pl.length + 16)
  rw [hop] at q1
  have la : A.length = at_ := by have := congrArg List.length q1; rw [List.length_append, hat, hk] at this; omega
  have hk4 : k ≤ 4 := by omega
  have hk1 : 1 ≤ k := by omega
  have e1 : (putH hN (pl.length + 16)).length - hN.n.l.length = at_ := by rw [hop, hat, hk]; omega
  have hp := parse_hid e (p := pl.length + 16) (by omega) (r := S ++ more) (by rw [List.length_append]; omega) R
  rw [e1, hop, hk, ← List.append_assoc, maskL_app _ _ _ _ _ _ (by omega) (by omega), hW] at hp
  have w0 : L W 0 = L (op ++ S) 0 ^^^ (R 0 &&& hidB hN.sp) := by rw [← hW, maskL_at (by omega), if_pos rfl]
  have p0 : L (op ++ S) 0 = fstB hN := by rw [← hop]; exact putH_fst _ _ _
  have tS : S.take (at_ + k + pl.length + 16 - (at_ + k) - 16) = cryL E nn pl := by
    have := seal_take E H nn op pl
    rw [hS, lS] at this
    rw [show at_ + k + pl.length + 16 - (at_ + k) - 16 = pl.length + 16 - 16 by omega]
    exact this
  refine ⟨?_, lW, by rw [List.length_append]; omega, by omega, by omega, rfl, ?_, ?_, ?_, ?_, ?_, ?_, ?_, ?_, ?_, ?_, tS, ?_, ?_⟩
  · rw [hp]
    by_cases hs : hN.sp = 2#8
    · rw [if_pos hs, hm hs, List.append_nil, lB]
    · rw [if_neg hs, hat]; congr 1
  · rw [← lW]; exact List.take_left' rfl
  · rw [L_app1 (by omega), w0, p0, xor2]
  · rw [← hW]; exact smpB_mask _ _ _ _ _ hk4
  · rw [← hW]; exact maskL2 _ _ _ _ _ (by omega)
  · rw [q1, List.append_assoc, ← la, List.drop_left' rfl, ← hk, List.take_left' rfl]
  · rw [← hat, List.take_left' rfl]
  · rw [← hat, List.drop_left' rfl]
  · by_cases hs : hN.sp = 2#8
    · rw [(fstB_s e hs).2.2.2.1, hk]
    · rw [(fstB_l e hs).2.2.2.1, hk]
  · by_cases hs : hN.sp = 2#8
    · exact (fstB_s e hs).2.2.1
    · exact (fstB_l e hs).2.2.1
  · by_cases hs : hN.sp = 2#8
    · rw [if_pos hs]; exact (fstB_s e hs).2.2.2.2
    · rw [if_neg hs]; exact ((checkM_more e).2.2 hs).symm
  · intro i hi
    rw [tS, ← seal_tag E H nn op pl i hi, hS, show at_ + k + pl.length + 16 - (at_ + k) - 16 = pl.length by omega]
  · rw [tS, cryL_cryL]
end Sx
end Go.Proofs.YtkjdkeolkigibaaGreat
end

section
/-
  Headers: what they can't be, by the law; short ones. No condition.
-/
namespace Go.Proofs.YtkjdkeolkigibaaGreat
set_option linter.unusedVariables false
namespace Sx
open Sha Vi

def lightM (h : Hd) : Bool := decide (h.t.l.length ≤ 300 ∧ h.f.l.length ≤ 300 ∧ h.k.l.length ≤ 300 ∧ h.n.l.length ≤ 300)
set_option maxRecDepth 20000 in
set_option maxHeartbeats 4000000 in
theorem fn_llight (h : Hd) : FnR Tryz.prog tds 12 4 (hdB h) [.agg (hdC 0 1 2 3 h)] (fun _ => True)
    (fun y hs => y = .a (.c (.bool (lightM h))) ∧ hs = hdB h) := by
  refine fn_of_body tds_ok follows_ Tryz.func12 rfl (t := .a (.agg (hdC 0 1 2 3 h)) :: anys (Tryz.f12.ntmps - 1)) rfl (fun w r0 hr _ => ?_)
  obtain ⟨x0, x1, x2, x3, rfl⟩ := len4' hr
  (repeat first | refine And.intro (by omega) ?_ | refine And.intro (by decide) ?_ | refine And.intro rfl ?_ | refine And.intro (fun _ => ?_) (fun h => Bool.noConfusion h) | refine And.intro (fun h => Bool.noConfusion h) (fun _ => ?_))
  by_cases ht : h.t.l.length ≤ 300
  · have et : decide ((h.t.l.length : Int) ≤ 300) = true := decide_eq_true (by omega)
    (repeat first | refine And.intro (by omega) ?_ | refine And.intro (by decide) ?_ | refine And.intro rfl ?_ | refine And.intro (fun _ => ?_) (fun h => Bool.noConfusion h) | refine And.intro (fun h => Bool.noConfusion h) (fun _ => ?_) | refine And.intro (fun _ => ?_) (fun h => absurd h (by rw [et]; decide)) | refine And.intro (fun h => absurd h (by rw [et]; decide)) (fun _ => ?_))
    by_cases hf : h.f.l.length ≤ 300
    · have ef : decide ((h.f.l.length : Int) ≤ 300) = true := decide_eq_true (by omega)
      (repeat first | refine And.intro (by omega) ?_ | refine And.intro (by decide) ?_ | refine And.intro rfl ?_ | refine And.intro (fun _ => ?_) (fun h => Bool.noConfusion h) | refine And.intro (fun h => Bool.noConfusion h) (fun _ => ?_) | refine And.intro (fun _ => ?_) (fun h => absurd h (by rw [et]; decide)) | refine And.intro (fun h => absurd h (by rw [et]; decide)) (fun _ => ?_) | refine And.intro (fun _ => ?_) (fun h => absurd h (by rw [ef]; decide)) | refine And.intro (fun h => absurd h (by rw [ef]; decide)) (fun _ => ?_))
      by_cases hk : h.k.l.length ≤ 300
      · have ek : decide ((h.k.l.length : Int) ≤ 300) = true := decide_eq_true (by omega)
        (repeat first | refine And.intro (by omega) ?_ | refine And.intro (by decide) ?_ | refine And.intro rfl ?_ | refine And.intro (fun _ => ?_) (fun h => Bool.noConfusion h) | refine And.intro (fun h => Bool.noConfusion h) (fun _ => ?_) | refine And.intro (fun _ => ?_) (fun h => absurd h (by rw [et]; decide)) | refine And.intro (fun h => absurd h (by rw [et]; decide)) (fun _ => ?_) | refine And.intro (fun _ => ?_) (fun h => absurd h (by rw [ef]; decide)) | refine And.intro (fun h => absurd h (by rw [ef]; decide)) (fun _ => ?_) | refine And.intro (fun _ => ?_) (fun h => absurd h (by rw [ek]; decide)) | refine And.intro (fun h => absurd h (by rw [ek]; decide)) (fun _ => ?_))
        by_cases hn : h.n.l.length ≤ 300
        · have en : decide ((h.n.l.length : Int) ≤ 300) = true := decide_eq_true (by omega)
          (repeat first | refine And.intro (by omega) ?_ | refine And.intro (by decide) ?_ | refine And.intro rfl ?_ | refine And.intro (fun _ => ?_) (fun h => Bool.noConfusion h) | refine And.intro (fun h => Bool.noConfusion h) (fun _ => ?_) | refine And.intro (fun _ => ?_) (fun h => absurd h (by rw [et]; decide)) | refine And.intro (fun h => absurd h (by rw [et]; decide)) (fun _ => ?_) | refine And.intro (fun _ => ?_) (fun h => absurd h (by rw [ef]; decide)) | refine And.intro (fun h => absurd h (by rw [ef]; decide)) (fun _ => ?_) | refine And.intro (fun _ => ?_) (fun h => absurd h (by rw [ek]; decide)) | refine And.intro (fun h => absurd h (by rw [ek]; decide)) (fun _ => ?_) | refine And.intro (fun _ => ?_) (fun h => absurd h (by rw [en]; decide)) | refine And.intro (fun h => absurd h (by rw [en]; decide)) (fun _ => ?_))
          refine ⟨.a (.c (.bool true)), _, ⟨[0, 1, 2, 3], ⟨rfl, rfl, rfl⟩, ?_⟩, by unfold lightM; simp [ht, hf, hk, hn], rfl⟩
          (repeat first | exact trivial | refine ent1 ?_)
          refine eqC_bts (eqC_bts (eqC_bts (eqC_bts ?_)))
          (repeat first | exact trivial | refine ent1 ?_)
        · have en : decide ((h.n.l.length : Int) ≤ 300) = false := decide_eq_false (by omega)
          (repeat first | refine And.intro (by omega) ?_ | refine And.intro (by decide) ?_ | refine And.intro rfl ?_ | refine And.intro (fun _ => ?_) (fun h => Bool.noConfusion h) | refine And.intro (fun h => Bool.noConfusion h) (fun _ => ?_) | refine And.intro (fun _ => ?_) (fun h => absurd h (by rw [et]; decide)) | refine And.intro (fun h => absurd h (by rw [et]; decide)) (fun _ => ?_) | refine And.intro (fun _ => ?_) (fun h => absurd h (by rw [ef]; decide)) | refine And.intro (fun h => absurd h (by rw [ef]; decide)) (fun _ => ?_) | refine And.intro (fun _ => ?_) (fun h => absurd h (by rw [ek]; decide)) | refine And.intro (fun h => absurd h (by rw [ek]; decide)) (fun _ => ?_) | refine And.intro (fun _ => ?_) (fun h => absurd h (by rw [en]; decide)) | refine And.intro (fun h => absurd h (by rw [en]; decide)) (fun _ => ?_))
          refine ⟨.a (.c (.bool false)), _, ⟨[0, 1, 2, 3], ⟨rfl, rfl, rfl⟩, ?_⟩, by unfold lightM; simp [ht, hf, hk, hn], rfl⟩
          (repeat first | exact trivial | refine ent1 ?_)
          refine eqC_bts (eqC_bts (eqC_bts (eqC_bts ?_)))
          (repeat first | exact trivial | refine ent1 ?_)
      · have ek : decide ((h.k.l.length : Int) ≤ 300) = false := decide_eq_false (by omega)
        (repeat first | refine And.intro (by omega) ?_ | refine And.intro (by decide) ?_ | refine And.intro rfl ?_ | refine And.intro (fun _ => ?_) (fun h => Bool.noConfusion h) | refine And.intro (fun h => Bool.noConfusion h) (fun _ => ?_) | refine And.intro (fun _ => ?_) (fun h => absurd h (by rw [et]; decide)) | refine And.intro (fun h => absurd h (by rw [et]; decide)) (fun _ => ?_) | refine And.intro (fun _ => ?_) (fun h => absurd h (by rw [ef]; decide)) | refine And.intro (fun h => absurd h (by rw [ef]; decide)) (fun _ => ?_) | refine And.intro (fun _ => ?_) (fun h => absurd h (by rw [ek]; decide)) | refine And.intro (fun h => absurd h (by rw [ek]; decide)) (fun _ => ?_))
        refine ⟨.a (.c (.bool false)), _, ⟨[0, 1, 2, 3], ⟨rfl, rfl, rfl⟩, ?_⟩, by unfold lightM; simp [ht, hf, hk], rfl⟩
        (repeat first | exact trivial | refine ent1 ?_)
        refine eqC_bts (eqC_bts (eqC_bts (eqC_bts ?_)))
        (repeat first | exact trivial | refine ent1 ?_)
    · have ef : decide ((h.f.l.length : Int) ≤ 300) = false := decide_eq_false (by omega)
      (repeat first | refine And.intro (by omega) ?_ | refine And.intro (by decide) ?_ | refine And.intro rfl ?_ | refine And.intro (fun _ => ?_) (fun h => Bool.noConfusion h) | refine And.intro (fun h => Bool.noConfusion h) (fun _ => ?_) | refine And.intro (fun _ => ?_) (fun h => absurd h (by rw [et]; decide)) | refine And.intro (fun h => absurd h (by rw [et]; decide)) (fun _ => ?_) | refine And.intro (fun _ => ?_) (fun h => absurd h (by rw [ef]; decide)) | refine And.intro (fun h => absurd h (by rw [ef]; decide)) (fun _ => ?_))
      refine ⟨.a (.c (.bool false)), _, ⟨[0, 1, 2, 3], ⟨rfl, rfl, rfl⟩, ?_⟩, by unfold lightM; simp [ht, hf], rfl⟩
      (repeat first | exact trivial | refine ent1 ?_)
      refine eqC_bts (eqC_bts (eqC_bts (eqC_bts ?_)))
      (repeat first | exact trivial | refine ent1 ?_)
  · have et : decide ((h.t.l.length : Int) ≤ 300) = false := decide_eq_false (by omega)
    (repeat first | refine And.intro (by omega) ?_ | refine And.intro (by decide) ?_ | refine And.intro rfl ?_ | refine And.intro (fun _ => ?_) (fun h => Bool.noConfusion h) | refine And.intro (fun h => Bool.noConfusion h) (fun _ => ?_) | refine And.intro (fun _ => ?_) (fun h => absurd h (by rw [et]; decide)) | refine And.intro (fun h => absurd h (by rw [et]; decide)) (fun _ => ?_))
    refine ⟨.a (.c (.bool false)), _, ⟨[0, 1, 2, 3], ⟨rfl, rfl, rfl⟩, ?_⟩, by unfold lightM; simp [ht], rfl⟩
    (repeat first | exact trivial | refine ent1 ?_)
    refine eqC_bts (eqC_bts (eqC_bts (eqC_bts ?_)))
    (repeat first | exact trivial | refine ent1 ?_)
end Sx
end Go.Proofs.YtkjdkeolkigibaaGreat
end

section
/-
  The document's numbers of one, two, four or eight bytes. No condition.
-/
namespace Go.Proofs.YtkjdkeolkigibaaGreat
set_option linter.unusedVariables false
namespace Vi
open Sha
end Vi
namespace Sx
open Sha Vi

end Sx
end Go.Proofs.YtkjdkeolkigibaaGreat
end

section
/-
  The document's headers as bytes. No condition.
-/
namespace Go.Proofs.YtkjdkeolkigibaaGreat
set_option linter.unusedVariables false
namespace Sx
open Sha Vi
set_option linter.unusedSimpArgs false

end Sx
end Go.Proofs.YtkjdkeolkigibaaGreat
end

section
/-
  Headers: the law's fixed fact. No condition.
-/
namespace Go.Proofs.YtkjdkeolkigibaaGreat
set_option linter.unusedVariables false
namespace Sx
open Sha Vi

end Sx
end Go.Proofs.YtkjdkeolkigibaaGreat
end

section
/-
  From a function over blocks to a law's walk: structs with slices of bytes that came in. Over any program. No condition of its own.
-/
namespace Go.Proofs.YtkjdkeolkigibaaGreat
set_option linter.unusedVariables false
namespace Sx
open Go.RowKit Go.ChangeShapes Go.WideShapes Sha Vi

theorem cell_spot {P : Program} {w : World} {r : Reach} {b0 : Nat} {u : TypeId} {x : Addr} {n c : Nat} (hk : Cell.okWide P w r b0 u (.slice (some x) n c)) : x.spot = none := by
  cases hu : P.underlying u with
  | none => simp only [Cell.okWide, Cell.ok, hu] at hk
  | some d =>
    cases d <;> simp only [Cell.okWide, Cell.ok, hu] at hk
    exact hk.2.2.2.1
theorem okWide_cells {P : Program} {w : World} {r : Reach} {b0 : Nat} {t : TypeId} {fs : Array Field} {cs : Array Value} (ht : P.underlying t = some (.struct fs)) (h : Value.okWide P w r b0 t (.agg cs)) {i : Nat} {a : Option Addr} {n c : Nat} (hc : cs[i]? = some (.slice a n c)) : ∀ x, a = some x → x.spot = none := by
  rintro x rfl
  simp only [Value.okWide, ht] at h
  obtain ⟨cs', e, _, ts, _, _, hcell⟩ := h
  injection e with e
  subst e
  obtain ⟨u, _, hk⟩ := hcell i _ hc
  exact cell_spot hk
theorem isL_nil (r : Rho) : IsL r [] [] := ⟨rfl, fun j x e => by simp at e⟩
theorem isL_cons {r : Rho} {x : SC} {v : Value} {l : List SC} {vs : List Value} (h : x.Is r v) (hs : IsL r l vs) : IsL r (x :: l) (v :: vs) :=
  ⟨by simpa using hs.1, fun j y e => by
    cases j with
    | zero => simp at e; subst e; exact ⟨v, rfl, h⟩
    | succ j => exact hs.2 j y e⟩
/-- What slices of bytes keep to, however long. -/
structure Sl.Fit (s : Sl) : Prop where
  fit : s.o + s.l.length ≤ s.N
  cap : s.l.length ≤ s.c
  nil : s.z = true → s.l = []
theorem Sl.Fit.ok {s : Sl} (h : s.Fit) (hs : s.l.length ≤ 1000000) : s.Ok := ⟨h.fit, h.cap, h.nil, hs⟩
/-- A slice that came in. -/
abbrev slI (z : Bool) (c : Nat) (l : Bs) : Sl := ⟨z, l.length, 0, c, l⟩
theorem InB.fit {w : World} {a : Option Addr} {n c : Nat} {z : Bool} {l : Bs} {B f : Nat} (h : InB w a n c z l B f) : (slI z c l).Fit :=
  ⟨by simp, by have := h.len; have := h.le; show l.length ≤ c; omega, h.nil⟩
theorem InB.val' {w : World} {a : Option Addr} {n c : Nat} {z : Bool} {l : Bs} {B f : Nat} (h : InB w a n c z l B f) {r : Rho} {i : Nat} (hr : r[i]? = some (B, f)) : (svC i (slI z c l)).Is r (.slice a n c) := by
  have := h.val r i hr
  rw [← h.len] at this ⊢
  exact this
theorem InB.at' {w : World} {a : Option Addr} {n c : Nat} {z : Bool} {l : Bs} {B f : Nat} (h : InB w a n c z l B f) (r : Rho) : At false r w B f (flat (svB (slI z c l))) := by
  have := h.at_ r
  rw [← h.len] at this
  exact this
end Sx
end Go.Proofs.YtkjdkeolkigibaaGreat
end

section
/-
  The law of headers as bytes. No condition.
-/
namespace Go.Proofs.YtkjdkeolkigibaaGreat
set_option linter.unusedVariables false
namespace Sx
open Sha Vi
set_option linter.unusedSimpArgs false

structure Hd.Fit (h : Hd) : Prop where
  t : h.t.Fit
  f : h.f.Fit
  k : h.k.Fit
  n : h.n.Fit
theorem Hd.Fit.ok {h : Hd} (hf : h.Fit) (hl : lightM h = true) : h.Ok := by
  have := of_decide_eq_true hl
  exact ⟨hf.t.ok (by omega), hf.f.ok (by omega), hf.k.ok (by omega), hf.n.ok (by omega)⟩
end Sx
end Go.Proofs.YtkjdkeolkigibaaGreat
end

section
/-
  The laws of sealing: their fixed fact. No condition.
-/
namespace Go.Proofs.YtkjdkeolkigibaaGreat
set_option linter.unusedVariables false
namespace Sx
open Sha Vi Aes Gcm
set_option linter.unusedSimpArgs false
def idB : Bs := [49#8, 50#8, 51#8, 52#8, 53#8, 54#8, 55#8, 56#8]
def plA : Bs := [1#8, 2#8, 3#8]
def scA : Bs := 1#8 :: List.replicate 31 0#8
abbrev hdA : Hd := ⟨2#8, ⟨false, 8, 0, 8, idB⟩, nilS, nilS, false, nilS⟩
set_option maxRecDepth 20000 in
set_option maxHeartbeats 8000000 in
theorem fn_awake12 : Fn Tryz.prog tds 6 [] [] (fun _ => True) (fun x hs => x = .a (.c (.bool true)) ∧ hs = []) := by
  refine fn_of_body tds_ok follows_ Tryz.func6 rfl (t := anys 53) rfl (fun w r0 hr _ => ?_)
  obtain rfl : r0 = [] := List.eq_nil_of_length_eq_zero hr
  obtain ⟨kq, hkq⟩ : ∃ v, exF scA (labT qKey [] 16) = v := ⟨_, rfl⟩
  obtain ⟨iv, hiv⟩ : ∃ v, exF scA (labT qIv [] 12) = v := ⟨_, rfl⟩
  obtain ⟨kh, hkh⟩ : ∃ v, exF scA (labT qHp [] 16) = v := ⟨_, rfl⟩
  obtain ⟨K, hK⟩ : ∃ v, pKeys kq = v := ⟨_, rfl⟩
  obtain ⟨K2, hK2⟩ : ∃ v, pKeys kh = v := ⟨_, rfl⟩
  obtain ⟨E, hE⟩ : ∃ v, pTurn kq = v := ⟨_, rfl⟩
  obtain ⟨H, hH⟩ : ∃ H, toE (E fun _ => 0#8) = H := ⟨_, rfl⟩
  have hsl : scA.length = 32 := rfl
  (repeat first | refine And.intro rfl ?_ | refine And.intro (fun _ => ?_) (fun h => Bool.noConfusion h) | refine And.intro (fun h => Bool.noConfusion h) (fun _ => ?_) | (with_reducible refine frc_bytesL (by first | omega | decide) ?_) | (with_reducible refine frc_bytesM (by first | omega | decide) ?_) | refine And.intro (by decide) ?_ | refine And.intro (by omega) ?_)
  refine call_same fn_keysNew [] rfl trivial trivial (fun _ _ => trivial) ?_
  rintro x hs' ⟨rfl, rfl⟩
  (repeat first | refine And.intro rfl ?_ | refine And.intro (fun _ => ?_) (fun h => Bool.noConfusion h) | refine And.intro (fun h => Bool.noConfusion h) (fun _ => ?_) | (with_reducible refine frc_bytesL (by first | omega | decide) ?_) | (with_reducible refine frc_bytesM (by first | omega | decide) ?_) | refine And.intro (by decide) ?_ | refine And.intro (by omega) ?_)
  refine call_same (fn_kOf scA 0 (fun _ => 0#32) (fun _ => 0#32) (.inl rfl) hsl 0 (fun _ => 0#8) 0 (.inl rfl) (by omega) kq K kh K2 iv E H hkq hiv hkh hK hE hH hK2) [2, 0, 1] rfl ?_ (by (repeat first | exact trivial | refine ent1 ?_)) (fun _ _ => trivial) ?_
  · (repeat first | exact trivial | refine ent1 ?_)
    refine ⟨fun j hj => eqC_w8 (nthC_w8 scA j hj), ?_⟩
    (repeat first | exact trivial | refine ent1 ?_)
  rintro x hs' ⟨dn, f, g, hd, rfl, rfl⟩
  (repeat first | refine And.intro rfl ?_ | refine And.intro (fun _ => ?_) (fun h => Bool.noConfusion h) | refine And.intro (fun h => Bool.noConfusion h) (fun _ => ?_) | (with_reducible refine frc_bytesL (by first | omega | decide) ?_) | (with_reducible refine frc_bytesM (by first | omega | decide) ?_) | refine And.intro (by decide) ?_ | refine And.intro (by omega) ?_)
  obtain ⟨hN, hhN⟩ : ∃ v, numH hdA 5#64 1 = v := ⟨_, rfl⟩
  have hch : checkM hN = 0 := by rw [← hhN]; decide +kernel
  have hln : hN.n.l.length = 1 := by rw [← hhN]; rfl
  obtain ⟨op, hop⟩ : ∃ v, putH hN 19 = v := ⟨_, rfl⟩
  have lop : op.length = 9 + 1 := by rw [← hop, ← hhN]; decide +kernel
  obtain ⟨S, hS⟩ : ∃ S, sealL E H (nonB iv 5#64) op plA = S := ⟨_, rfl⟩
  obtain ⟨R, hR⟩ : ∃ R, pTurn kh (smpB (op ++ S) 9) = R := ⟨_, rfl⟩
  obtain ⟨W, hW⟩ : ∃ W, maskL R (hidB 2#8) 9 1 (op ++ S) = W := ⟨_, rfl⟩
  have hsp : hN.sp = 2#8 := by rw [← hhN]; rfl
  have l3 : plA.length = 3 := rfl
  have pk : Packet hN op S W [] plA 9 1 29 R E H (nonB iv 5#64) := by
    have := packet (more := []) hch hln (pl := plA) (by rw [l3]; omega) (by rw [l3]; omega) (by rw [l3]; exact hop) hS lop R (by rw [hsp, hW]) (fun _ => rfl)
    rw [l3] at this
    exact this
  have hpE : putE hN 19 = 0 := by rw [← hhN]; decide +kernel
  refine call_same (fn_protect hdA ⟨⟨by decide, by decide, fun h => Bool.noConfusion h, by decide⟩, nil_ok, nil_ok, nil_ok⟩ ⟨false, 3, 0, 3, plA⟩ ⟨by decide, by decide, fun h => Bool.noConfusion h, by decide⟩ (by decide) 5#64 (by decide) (-1) (by omega) (0 + 1) (by omega) kq kh K K2 iv R E H hK hE hK2 1 (by decide +kernel) hN hhN plA rfl 0 hpE op hop S hS 9 lop (by omega) hR) [7, 7, 7, 7, 8, 3, 1, 4, 5, 6] rfl ?_ ?_ (fun _ _ => trivial) ?_
  · (repeat first | exact trivial | refine ent1 ?_)
  · refine ⟨rfl, fun j hj => eqC_lit idB hj, eqSegs_nil (eqSegs_nil (eqSegs_nil ⟨rfl, fun j hj => eqC_lit plA hj, ?_⟩))⟩
    (repeat first | exact trivial | refine ent1 ?_)
  rintro x hs' ⟨-, hres⟩
  obtain ⟨c1, cnt1, hc1, hc2, hc3, rfl, rfl⟩ := hres rfl
  clear hres
  rw [show maskL R (hidB hdA.sp) 9 1 (op ++ S) = W from hW]
  have lB : (op ++ S).length = W.length := by rw [← hW, maskL_len]
  have lW : W.length = 29 := pk.len
  rw [lB, lW]
  rw [lB, lW] at hc3
  have tk : W.take 29 = W := by have := pk.tk; rwa [List.append_nil] at this
  have hpar : parseP W ((8 : Nat) : Int) = .ok 2#8 idB [] [] 9 29 := by
    have := pk.par
    rw [List.append_nil, ← hhN] at this
    exact this
  have oW : Sl.Ok ⟨false, c1, 0, c1, W⟩ := own_ok (by omega) (by omega)
  (repeat first | refine And.intro rfl ?_ | refine And.intro (fun _ => ?_) (fun h => Bool.noConfusion h) | refine And.intro (fun h => Bool.noConfusion h) (fun _ => ?_) | (with_reducible refine frc_bytesL (by first | omega | decide) ?_) | (with_reducible refine frc_bytesM (by first | omega | decide) ?_) | refine And.intro (by decide) ?_ | refine And.intro (by omega) ?_)
  refine call_same (fn_parse ⟨false, c1, 0, c1, W⟩ oW ((8 : Nat) : Int)) [9] rfl ?_ ?_ (fun _ _ => trivial) ?_
  · (repeat first | exact trivial | refine ent1 ?_)
    exact ⟨lW.symm, rfl, rfl, trivial⟩
  · (repeat first | exact trivial | refine ent1 ?_)
    refine ⟨fun j hj => eqC_winBM (Nat.le_refl _), ?_⟩
    (repeat first | exact trivial | refine ent1 ?_)
  rintro x hs' hres
  rw [show parseP (Sl.l ⟨false, c1, 0, c1, W⟩) ((8 : Nat) : Int) = .ok 2#8 idB [] [] 9 29 from hpar] at hres
  obtain ⟨T, F, KK, hT, hF, hKK, eT, eF, eK, rfl, rfl⟩ := hres
  (repeat first | refine And.intro rfl ?_ | refine And.intro (fun _ => ?_) (fun h => Bool.noConfusion h) | refine And.intro (fun h => Bool.noConfusion h) (fun _ => ?_) | (with_reducible refine frc_bytesL (by first | omega | decide) ?_) | (with_reducible refine frc_bytesM (by first | omega | decide) ?_) | refine And.intro (by decide) ?_ | refine And.intro (by omega) ?_)
  refine call_same (fn_unprotect 2#8 T F KK ⟨false, c1, 0, c1, W⟩ hT hF hKK oW 9 29 4 (by omega) (by omega) (by show 29 ≤ W.length; omega) (by omega) cnt1 (by omega) kq kh K K2 iv R E H hK hE hK2 (by rw [show (Sl.l ⟨false, c1, 0, c1, W⟩).take 29 = W from tk, pk.smp]; exact hR) (fstB hN) (by have := pk.f0; rw [List.append_nil, hsp] at this; exact this) 1 pk.many (op ++ S)
    (by rw [show (Sl.l ⟨false, c1, 0, c1, W⟩).take 29 = W from tk]; have := pk.back; rw [hsp] at this; exact this) 5#64 (by rw [pk.tn, ← hhN]; decide +kernel) op S plA pk.tA pk.tC _ rfl pk.cry) [10, 11, 12, 9, 3, 1, 4, 5, 6] rfl ?_ ?_ (fun _ _ => trivial) ?_
  · (repeat first | exact trivial | refine ent1 ?_)
    refine ⟨lW.symm, rfl, ?_⟩
    (repeat first | exact trivial | refine ent1 ?_)
  · refine eqC_btsM (eqC_btsM (eqC_btsM ?_))
    refine ⟨rfl, fun j hj => eqC_winBM (Nat.le_refl _), ?_⟩
    (repeat first | exact trivial | refine ent1 ?_)
  rintro x hs' ⟨-, -, -, hres⟩
  obtain ⟨g', hg', g1, g2, g3, g4, g5, g6, rfl, rfl⟩ := hres (by have := pk.none; rw [hsp] at this; exact this) (by omega) pk.tag
  clear hres
  have q1 : decide (U8 plA = [1, 2, 3]) = true := by decide
  (repeat first | refine And.intro rfl ?_ | refine And.intro (fun _ => ?_) (fun h => absurd h (by rw [q1]; decide)) | refine And.intro (fun h => absurd h (by rw [q1]; decide)) (fun _ => ?_) | refine And.intro (fun _ => ?_) (fun h => Bool.noConfusion h) | refine And.intro (fun h => Bool.noConfusion h) (fun _ => ?_) | (with_reducible refine frc_bytesL (by first | omega | decide) ?_) | (with_reducible refine frc_bytesM (by first | omega | decide) ?_) | refine And.intro (by decide) ?_ | refine And.intro (by omega) ?_)
  refine ⟨U8 plA, str_of (M := plA) rfl (fun q hq => ?_), ?_⟩
  · show SC.mp _ (bytesF 3 (L plA) (q + 0)) = _
    rw [Nat.add_zero, bytesF_lt (by exact hq)]
    rfl
  (repeat first | refine And.intro rfl ?_ | refine And.intro (fun _ => ?_) (fun h => absurd h (by rw [q1]; decide)) | refine And.intro (fun h => absurd h (by rw [q1]; decide)) (fun _ => ?_) | refine And.intro (fun _ => ?_) (fun h => Bool.noConfusion h) | refine And.intro (fun h => Bool.noConfusion h) (fun _ => ?_) | (with_reducible refine frc_bytesL (by first | omega | decide) ?_) | (with_reducible refine frc_bytesM (by first | omega | decide) ?_) | refine And.intro (by decide) ?_ | refine And.intro (by omega) ?_)
  exact ⟨.a (.c (.bool true)), [], ⟨[], ⟨rfl, rfl, rfl⟩, q1, trivial⟩, rfl, rfl⟩
end Sx
end Go.Proofs.YtkjdkeolkigibaaGreat
end

section
/-
  The law of what can't be protected or shown. No condition.
-/
namespace Go.Proofs.YtkjdkeolkigibaaGreat
set_option linter.unusedVariables false
namespace Sx
open Sha Vi Aes Gcm
set_option linter.unusedSimpArgs false
theorem numH_check {h : Hd} (e : checkM h = 0) (n : BitVec 64) {k : Nat} (h1 : 1 ≤ k) (h4 : k ≤ 4) : checkM (numH h n k) = 0 := by
  have ln : (cutM n k).length = k := tab_len _ _
  obtain ⟨a0, a1, a2, a3, a4, a5⟩ := checkM_0 e
  unfold checkM at e ⊢
  unfold numH
  dsimp only
  rw [ln, if_neg (show ¬ (k < 1 ∨ 4 < k) by omega)]
  rw [if_neg (show ¬ (h.n.l.length < 1 ∨ 4 < h.n.l.length) by omega)] at e
  exact e
end Sx
end Go.Proofs.YtkjdkeolkigibaaGreat
end

section
/-
  The document's Size and Cut of a packet's number. No condition.
-/
namespace Go.Proofs.YtkjdkeolkigibaaGreat
set_option linter.unusedVariables false
namespace Sx
open Sha Vi
set_option linter.unusedSimpArgs false
def rsP (A : BitVec 64) (x : Nat × BitVec 64) : Prop :=
  x = (1, 128#64) ∨ (x = (2, 32768#64) ∧ ¬ A < 128#64) ∨ (x = (3, 8388608#64) ∧ ¬ A < 128#64 ∧ ¬ A < 32768#64) ∨ (x = (4, 2147483648#64) ∧ ¬ A < 128#64 ∧ ¬ A < 32768#64 ∧ ¬ A < 8388608#64)
set_option maxRecDepth 20000 in
set_option maxHeartbeats 4000000 in
theorem fn_rsize (n : BitVec 64) (acked : Int) (ha : -9223372036854775808 ≤ acked ∧ acked ≤ 9223372036854775807) : Fn Tryz.prog tds 15 [] [.c (.w64 n), .c (.int .i64 acked)] (fun _ => True) (fun x hs => x = .a (.c (.int .i64 (sizeM n acked : Nat))) ∧ hs = []) := by
  refine fn_of_body tds_ok follows_ Tryz.func15 rfl (t := .a (.c (.w64 n)) :: .a (.c (.int .i64 acked)) :: anys (Tryz.f15.ntmps - 2)) rfl (fun w r0 hr _ => ?_)
  obtain rfl : r0 = [] := List.eq_nil_of_length_eq_zero hr
  obtain ⟨A, hA⟩ : ∃ A, awayM n acked = A := ⟨_, rfl⟩
  have hsz : sizeM n acked = if A < 128#64 then 1 else if A < 32768#64 then 2 else if A < 8388608#64 then 3 else 4 := by unfold sizeM; rw [hA]
  rw [hsz]
  clear hsz
  unfold awayM at hA
  by_cases h0 : acked < 0
  · have e0 : decide (0 ≤ acked) = false := decide_eq_false (by omega)
    have e1 := e0
    rw [if_pos h0] at hA
    (repeat first | (refine And.intro ?_ ?_; first | exact rfl | ((exact fun h => absurd h (by first | decide | (rw [e0]; decide) | (rw [e1]; decide))); intro yy; clear yy) | (rotate_left; (exact fun h => absurd h (by first | decide | (rw [e0]; decide) | (rw [e1]; decide))); intro yy; clear yy) | decide | omega) | (with_reducible refine frc_bytesL (by first | omega | decide) ?_) | (with_reducible refine frc_bytesM (by first | omega | decide) ?_))
    first | rw [hA] | (conv => whnf; rw [hA])
    refine .inl ⟨Nat × BitVec 64, fun x => ⟨[.a (.c (.w64 (n))), .a (.c (.int .i64 (acked))), .any, .any, .any, .a (.c (.w64 (A))), .a (.c (.int .i64 ((x.1 : Int)))), .a (.c (.w64 (x.2))), .any, .any, .any, .any, .any, .any, .any, .any, .any, .any, .any, .any, .any, .any, .any, .any, .any, .any, .any, .any, .any, .any, .any, .any], []⟩, rsP A, fun x => 5 - x.1, ⟨(1, 128#64), [], ⟨⟨rfl, rfl, rfl⟩, ?_⟩, .inl rfl⟩, fun x hx => ?_⟩
    · (repeat first | exact trivial | refine ent1 ?_)
    · rcases hx with rfl | ⟨rfl, h1⟩ | ⟨rfl, h1, h2⟩ | ⟨rfl, h1, h2, h3⟩
      · by_cases c : A < 128#64
        · have d : decide (128#64 ≤ A) = false := decide_eq_false (BitVec.not_le.2 c)
          (repeat first | (refine And.intro ?_ ?_; first | exact rfl | ((exact fun h => absurd h (by first | decide | (rw [d]; decide))); intro yy; clear yy) | (rotate_left; (exact fun h => absurd h (by first | decide | (rw [d]; decide))); intro yy; clear yy) | decide | omega) | (with_reducible refine frc_bytesL (by first | omega | decide) ?_) | (with_reducible refine frc_bytesM (by first | omega | decide) ?_))
          refine ⟨.a (.c (.int .i64 ((1 : Nat) : Int))), [], ⟨[], ⟨rfl, rfl, rfl⟩, ?_⟩, by rw [if_pos c], rfl⟩
          exact ⟨rfl, trivial⟩
        · have d : decide (128#64 ≤ A) = true := decide_eq_true (BitVec.not_lt.1 c)
          (repeat first | (refine And.intro ?_ ?_; first | exact rfl | ((exact fun h => absurd h (by first | decide | (rw [d]; decide))); intro yy; clear yy) | (rotate_left; (exact fun h => absurd h (by first | decide | (rw [d]; decide))); intro yy; clear yy) | decide | omega) | (with_reducible refine frc_bytesL (by first | omega | decide) ?_) | (with_reducible refine frc_bytesM (by first | omega | decide) ?_))
          refine ⟨(2, 32768#64), [], ⟨⟨rfl, rfl, rfl⟩, ?_⟩, .inr (.inl ⟨rfl, c⟩), by decide⟩
          (repeat first | exact trivial | refine ent1 ?_)
      · by_cases c : A < 32768#64
        · have d : decide (32768#64 ≤ A) = false := decide_eq_false (BitVec.not_le.2 c)
          (repeat first | (refine And.intro ?_ ?_; first | exact rfl | ((exact fun h => absurd h (by first | decide | (rw [d]; decide))); intro yy; clear yy) | (rotate_left; (exact fun h => absurd h (by first | decide | (rw [d]; decide))); intro yy; clear yy) | decide | omega) | (with_reducible refine frc_bytesL (by first | omega | decide) ?_) | (with_reducible refine frc_bytesM (by first | omega | decide) ?_))
          refine ⟨.a (.c (.int .i64 ((2 : Nat) : Int))), [], ⟨[], ⟨rfl, rfl, rfl⟩, ?_⟩, by rw [if_neg h1, if_pos c], rfl⟩
          exact ⟨rfl, trivial⟩
        · have d : decide (32768#64 ≤ A) = true := decide_eq_true (BitVec.not_lt.1 c)
          (repeat first | (refine And.intro ?_ ?_; first | exact rfl | ((exact fun h => absurd h (by first | decide | (rw [d]; decide))); intro yy; clear yy) | (rotate_left; (exact fun h => absurd h (by first | decide | (rw [d]; decide))); intro yy; clear yy) | decide | omega) | (with_reducible refine frc_bytesL (by first | omega | decide) ?_) | (with_reducible refine frc_bytesM (by first | omega | decide) ?_))
          refine ⟨(3, 8388608#64), [], ⟨⟨rfl, rfl, rfl⟩, ?_⟩, .inr (.inr (.inl ⟨rfl, h1, c⟩)), by decide⟩
          (repeat first | exact trivial | refine ent1 ?_)
      · by_cases c : A < 8388608#64
        · have d : decide (8388608#64 ≤ A) = false := decide_eq_false (BitVec.not_le.2 c)
          (repeat first | (refine And.intro ?_ ?_; first | exact rfl | ((exact fun h => absurd h (by first | decide | (rw [d]; decide))); intro yy; clear yy) | (rotate_left; (exact fun h => absurd h (by first | decide | (rw [d]; decide))); intro yy; clear yy) | decide | omega) | (with_reducible refine frc_bytesL (by first | omega | decide) ?_) | (with_reducible refine frc_bytesM (by first | omega | decide) ?_))
          refine ⟨.a (.c (.int .i64 ((3 : Nat) : Int))), [], ⟨[], ⟨rfl, rfl, rfl⟩, ?_⟩, by rw [if_neg h1, if_neg h2, if_pos c], rfl⟩
          exact ⟨rfl, trivial⟩
        · have d : decide (8388608#64 ≤ A) = true := decide_eq_true (BitVec.not_lt.1 c)
          (repeat first | (refine And.intro ?_ ?_; first | exact rfl | ((exact fun h => absurd h (by first | decide | (rw [d]; decide))); intro yy; clear yy) | (rotate_left; (exact fun h => absurd h (by first | decide | (rw [d]; decide))); intro yy; clear yy) | decide | omega) | (with_reducible refine frc_bytesL (by first | omega | decide) ?_) | (with_reducible refine frc_bytesM (by first | omega | decide) ?_))
          refine ⟨(4, 2147483648#64), [], ⟨⟨rfl, rfl, rfl⟩, ?_⟩, .inr (.inr (.inr ⟨rfl, h1, h2, c⟩)), by decide⟩
          (repeat first | exact trivial | refine ent1 ?_)
      · (repeat first | (refine And.intro ?_ ?_; first | exact rfl | ((exact fun h => absurd h (by first | decide)); intro yy; clear yy) | (rotate_left; (exact fun h => absurd h (by first | decide)); intro yy; clear yy) | decide | omega) | (with_reducible refine frc_bytesL (by first | omega | decide) ?_) | (with_reducible refine frc_bytesM (by first | omega | decide) ?_))
        refine ⟨.a (.c (.int .i64 ((4 : Nat) : Int))), [], ⟨[], ⟨rfl, rfl, rfl⟩, ?_⟩, by rw [if_neg h1, if_neg h2, if_neg h3], rfl⟩
        exact ⟨rfl, trivial⟩
  have e0 : decide (0 ≤ acked) = true := decide_eq_true (by omega)
  rw [if_neg h0] at hA
  by_cases hl : BitVec.ofInt 64 acked < n
  · have e1 : decide (BitVec.ofInt 64 acked < n) = true := decide_eq_true hl
    rw [if_pos (BitVec.le_of_lt hl)] at hA
    (repeat first | (refine And.intro ?_ ?_; first | exact rfl | ((exact fun h => absurd h (by first | decide | (rw [e0]; decide) | (rw [e1]; decide))); intro yy; clear yy) | (rotate_left; (exact fun h => absurd h (by first | decide | (rw [e0]; decide) | (rw [e1]; decide))); intro yy; clear yy) | decide | omega) | (with_reducible refine frc_bytesL (by first | omega | decide) ?_) | (with_reducible refine frc_bytesM (by first | omega | decide) ?_))
    first | rw [hA] | (conv => whnf; rw [hA])
    refine .inl ⟨Nat × BitVec 64, fun x => ⟨[.a (.c (.w64 (n))), .a (.c (.int .i64 (acked))), .any, .any, .any, .a (.c (.w64 (A))), .a (.c (.int .i64 ((x.1 : Int)))), .a (.c (.w64 (x.2))), .any, .any, .any, .any, .any, .any, .any, .any, .any, .any, .any, .any, .any, .any, .any, .any, .any, .any, .any, .any, .any, .any, .any, .any], []⟩, rsP A, fun x => 5 - x.1, ⟨(1, 128#64), [], ⟨⟨rfl, rfl, rfl⟩, ?_⟩, .inl rfl⟩, fun x hx => ?_⟩
    · (repeat first | exact trivial | refine ent1 ?_)
    · rcases hx with rfl | ⟨rfl, h1⟩ | ⟨rfl, h1, h2⟩ | ⟨rfl, h1, h2, h3⟩
      · by_cases c : A < 128#64
        · have d : decide (128#64 ≤ A) = false := decide_eq_false (BitVec.not_le.2 c)
          (repeat first | (refine And.intro ?_ ?_; first | exact rfl | ((exact fun h => absurd h (by first | decide | (rw [d]; decide))); intro yy; clear yy) | (rotate_left; (exact fun h => absurd h (by first | decide | (rw [d]; decide))); intro yy; clear yy) | decide | omega) | (with_reducible refine frc_bytesL (by first | omega | decide) ?_) | (with_reducible refine frc_bytesM (by first | omega | decide) ?_))
          refine ⟨.a (.c (.int .i64 ((1 : Nat) : Int))), [], ⟨[], ⟨rfl, rfl, rfl⟩, ?_⟩, by rw [if_pos c], rfl⟩
          exact ⟨rfl, trivial⟩
        · have d : decide (128#64 ≤ A) = true := decide_eq_true (BitVec.not_lt.1 c)
          (repeat first | (refine And.intro ?_ ?_; first | exact rfl | ((exact fun h => absurd h (by first | decide | (rw [d]; decide))); intro yy; clear yy) | (rotate_left; (exact fun h => absurd h (by first | decide | (rw [d]; decide))); intro yy; clear yy) | decide | omega) | (with_reducible refine frc_bytesL (by first | omega | decide) ?_) | (with_reducible refine frc_bytesM (by first | omega | decide) ?_))
          refine ⟨(2, 32768#64), [], ⟨⟨rfl, rfl, rfl⟩, ?_⟩, .inr (.inl ⟨rfl, c⟩), by decide⟩
          (repeat first | exact trivial | refine ent1 ?_)
      · by_cases c : A < 32768#64
        · have d : decide (32768#64 ≤ A) = false := decide_eq_false (BitVec.not_le.2 c)
          (repeat first | (refine And.intro ?_ ?_; first | exact rfl | ((exact fun h => absurd h (by first | decide | (rw [d]; decide))); intro yy; clear yy) | (rotate_left; (exact fun h => absurd h (by first | decide | (rw [d]; decide))); intro yy; clear yy) | decide | omega) | (with_reducible refine frc_bytesL (by first | omega | decide) ?_) | (with_reducible refine frc_bytesM (by first | omega | decide) ?_))
          refine ⟨.a (.c (.int .i64 ((2 : Nat) : Int))), [], ⟨[], ⟨rfl, rfl, rfl⟩, ?_⟩, by rw [if_neg h1, if_pos c], rfl⟩
          exact ⟨rfl, trivial⟩
        · have d : decide (32768#64 ≤ A) = true := decide_eq_true (BitVec.not_lt.1 c)
          (repeat first | (refine And.intro ?_ ?_; first | exact rfl | ((exact fun h => absurd h (by first | decide | (rw [d]; decide))); intro yy; clear yy) | (rotate_left; (exact fun h => absurd h (by first | decide | (rw [d]; decide))); intro yy; clear yy) | decide | omega) | (with_reducible refine frc_bytesL (by first | omega | decide) ?_) | (with_reducible refine frc_bytesM (by first | omega | decide) ?_))
          refine ⟨(3, 8388608#64), [], ⟨⟨rfl, rfl, rfl⟩, ?_⟩, .inr (.inr (.inl ⟨rfl, h1, c⟩)), by decide⟩
          (repeat first | exact trivial | refine ent1 ?_)
      · by_cases c : A < 8388608#64
        · have d : decide (8388608#64 ≤ A) = false := decide_eq_false (BitVec.not_le.2 c)
          (repeat first | (refine And.intro ?_ ?_; first | exact rfl | ((exact fun h => absurd h (by first | decide | (rw [d]; decide))); intro yy; clear yy) | (rotate_left; (exact fun h => absurd h (by first | decide | (rw [d]; decide))); intro yy; clear yy) | decide | omega) | (with_reducible refine frc_bytesL (by first | omega | decide) ?_) | (with_reducible refine frc_bytesM (by first | omega | decide) ?_))
          refine ⟨.a (.c (.int .i64 ((3 : Nat) : Int))), [], ⟨[], ⟨rfl, rfl, rfl⟩, ?_⟩, by rw [if_neg h1, if_neg h2, if_pos c], rfl⟩
          exact ⟨rfl, trivial⟩
        · have d : decide (8388608#64 ≤ A) = true := decide_eq_true (BitVec.not_lt.1 c)
          (repeat first | (refine And.intro ?_ ?_; first | exact rfl | ((exact fun h => absurd h (by first | decide | (rw [d]; decide))); intro yy; clear yy) | (rotate_left; (exact fun h => absurd h (by first | decide | (rw [d]; decide))); intro yy; clear yy) | decide | omega) | (with_reducible refine frc_bytesL (by first | omega | decide) ?_) | (with_reducible refine frc_bytesM (by first | omega | decide) ?_))
          refine ⟨(4, 2147483648#64), [], ⟨⟨rfl, rfl, rfl⟩, ?_⟩, .inr (.inr (.inr ⟨rfl, h1, h2, c⟩)), by decide⟩
          (repeat first | exact trivial | refine ent1 ?_)
      · (repeat first | (refine And.intro ?_ ?_; first | exact rfl | ((exact fun h => absurd h (by first | decide)); intro yy; clear yy) | (rotate_left; (exact fun h => absurd h (by first | decide)); intro yy; clear yy) | decide | omega) | (with_reducible refine frc_bytesL (by first | omega | decide) ?_) | (with_reducible refine frc_bytesM (by first | omega | decide) ?_))
        refine ⟨.a (.c (.int .i64 ((4 : Nat) : Int))), [], ⟨[], ⟨rfl, rfl, rfl⟩, ?_⟩, by rw [if_neg h1, if_neg h2, if_neg h3], rfl⟩
        exact ⟨rfl, trivial⟩
  · have e1 : decide (BitVec.ofInt 64 acked < n) = false := decide_eq_false hl
    have hA : 0#64 = A := by
      rw [← hA]
      by_cases hq : BitVec.ofInt 64 acked ≤ n
      · rw [if_pos hq]
        have : n = BitVec.ofInt 64 acked := BitVec.le_antisymm (BitVec.not_lt.1 hl) hq
        rw [← this, BitVec.sub_self]
      · rw [if_neg hq]
    (repeat first | (refine And.intro ?_ ?_; first | exact rfl | ((exact fun h => absurd h (by first | decide | (rw [e0]; decide) | (rw [e1]; decide))); intro yy; clear yy) | (rotate_left; (exact fun h => absurd h (by first | decide | (rw [e0]; decide) | (rw [e1]; decide))); intro yy; clear yy) | decide | omega) | (with_reducible refine frc_bytesL (by first | omega | decide) ?_) | (with_reducible refine frc_bytesM (by first | omega | decide) ?_))
    first | rw [hA] | (conv => whnf; rw [hA])
    refine .inl ⟨Nat × BitVec 64, fun x => ⟨[.a (.c (.w64 (n))), .a (.c (.int .i64 (acked))), .any, .any, .any, .a (.c (.w64 (A))), .a (.c (.int .i64 ((x.1 : Int)))), .a (.c (.w64 (x.2))), .any, .any, .any, .any, .any, .any, .any, .any, .any, .any, .any, .any, .any, .any, .any, .any, .any, .any, .any, .any, .any, .any, .any, .any], []⟩, rsP A, fun x => 5 - x.1, ⟨(1, 128#64), [], ⟨⟨rfl, rfl, rfl⟩, ?_⟩, .inl rfl⟩, fun x hx => ?_⟩
    · (repeat first | exact trivial | refine ent1 ?_)
    · rcases hx with rfl | ⟨rfl, h1⟩ | ⟨rfl, h1, h2⟩ | ⟨rfl, h1, h2, h3⟩
      · by_cases c : A < 128#64
        · have d : decide (128#64 ≤ A) = false := decide_eq_false (BitVec.not_le.2 c)
          (repeat first | (refine And.intro ?_ ?_; first | exact rfl | ((exact fun h => absurd h (by first | decide | (rw [d]; decide))); intro yy; clear yy) | (rotate_left; (exact fun h => absurd h (by first | decide | (rw [d]; decide))); intro yy; clear yy) | decide | omega) | (with_reducible refine frc_bytesL (by first | omega | decide) ?_) | (with_reducible refine frc_bytesM (by first | omega | decide) ?_))
          refine ⟨.a (.c (.int .i64 ((1 : Nat) : Int))), [], ⟨[], ⟨rfl, rfl, rfl⟩, ?_⟩, by rw [if_pos c], rfl⟩
          exact ⟨rfl, trivial⟩
        · have d : decide (128#64 ≤ A) = true := decide_eq_true (BitVec.not_lt.1 c)
          (repeat first | (refine And.intro ?_ ?_; first | exact rfl | ((exact fun h => absurd h (by first | decide | (rw [d]; decide))); intro yy; clear yy) | (rotate_left; (exact fun h => absurd h (by first | decide | (rw [d]; decide))); intro yy; clear yy) | decide | omega) | (with_reducible refine frc_bytesL (by first | omega | decide) ?_) | (with_reducible refine frc_bytesM (by first | omega | decide) ?_))
          refine ⟨(2, 32768#64), [], ⟨⟨rfl, rfl, rfl⟩, ?_⟩, .inr (.inl ⟨rfl, c⟩), by decide⟩
          (repeat first | exact trivial | refine ent1 ?_)
      · by_cases c : A < 32768#64
        · have d : decide (32768#64 ≤ A) = false := decide_eq_false (BitVec.not_le.2 c)
          (repeat first | (refine And.intro ?_ ?_; first | exact rfl | ((exact fun h => absurd h (by first | decide | (rw [d]; decide))); intro yy; clear yy) | (rotate_left; (exact fun h => absurd h (by first | decide | (rw [d]; decide))); intro yy; clear yy) | decide | omega) | (with_reducible refine frc_bytesL (by first | omega | decide) ?_) | (with_reducible refine frc_bytesM (by first | omega | decide) ?_))
          refine ⟨.a (.c (.int .i64 ((2 : Nat) : Int))), [], ⟨[], ⟨rfl, rfl, rfl⟩, ?_⟩, by rw [if_neg h1, if_pos c], rfl⟩
          exact ⟨rfl, trivial⟩
        · have d : decide (32768#64 ≤ A) = true := decide_eq_true (BitVec.not_lt.1 c)
          (repeat first | (refine And.intro ?_ ?_; first | exact rfl | ((exact fun h => absurd h (by first | decide | (rw [d]; decide))); intro yy; clear yy) | (rotate_left; (exact fun h => absurd h (by first | decide | (rw [d]; decide))); intro yy; clear yy) | decide | omega) | (with_reducible refine frc_bytesL (by first | omega | decide) ?_) | (with_reducible refine frc_bytesM (by first | omega | decide) ?_))
          refine ⟨(3, 8388608#64), [], ⟨⟨rfl, rfl, rfl⟩, ?_⟩, .inr (.inr (.inl ⟨rfl, h1, c⟩)), by decide⟩
          (repeat first | exact trivial | refine ent1 ?_)
      · by_cases c : A < 8388608#64
        · have d : decide (8388608#64 ≤ A) = false := decide_eq_false (BitVec.not_le.2 c)
          (repeat first | (refine And.intro ?_ ?_; first | exact rfl | ((exact fun h => absurd h (by first | decide | (rw [d]; decide))); intro yy; clear yy) | (rotate_left; (exact fun h => absurd h (by first | decide | (rw [d]; decide))); intro yy; clear yy) | decide | omega) | (with_reducible refine frc_bytesL (by first | omega | decide) ?_) | (with_reducible refine frc_bytesM (by first | omega | decide) ?_))
          refine ⟨.a (.c (.int .i64 ((3 : Nat) : Int))), [], ⟨[], ⟨rfl, rfl, rfl⟩, ?_⟩, by rw [if_neg h1, if_neg h2, if_pos c], rfl⟩
          exact ⟨rfl, trivial⟩
        · have d : decide (8388608#64 ≤ A) = true := decide_eq_true (BitVec.not_lt.1 c)
          (repeat first | (refine And.intro ?_ ?_; first | exact rfl | ((exact fun h => absurd h (by first | decide | (rw [d]; decide))); intro yy; clear yy) | (rotate_left; (exact fun h => absurd h (by first | decide | (rw [d]; decide))); intro yy; clear yy) | decide | omega) | (with_reducible refine frc_bytesL (by first | omega | decide) ?_) | (with_reducible refine frc_bytesM (by first | omega | decide) ?_))
          refine ⟨(4, 2147483648#64), [], ⟨⟨rfl, rfl, rfl⟩, ?_⟩, .inr (.inr (.inr ⟨rfl, h1, h2, c⟩)), by decide⟩
          (repeat first | exact trivial | refine ent1 ?_)
      · (repeat first | (refine And.intro ?_ ?_; first | exact rfl | ((exact fun h => absurd h (by first | decide)); intro yy; clear yy) | (rotate_left; (exact fun h => absurd h (by first | decide)); intro yy; clear yy) | decide | omega) | (with_reducible refine frc_bytesL (by first | omega | decide) ?_) | (with_reducible refine frc_bytesM (by first | omega | decide) ?_))
        refine ⟨.a (.c (.int .i64 ((4 : Nat) : Int))), [], ⟨[], ⟨rfl, rfl, rfl⟩, ?_⟩, by rw [if_neg h1, if_neg h2, if_neg h3], rfl⟩
        exact ⟨rfl, trivial⟩
theorem cut_byte (n : BitVec 64) (j : Nat) : ((n >>> (8 * j)) % 256#64).setWidth 8 = (n >>> (8 * j)).setWidth 8 := by
  apply BitVec.eq_of_toNat_eq
  rw [BitVec.toNat_setWidth, BitVec.toNat_setWidth, BitVec.toNat_umod]
  show _ % 256 % 256 = _ % 256
  omega
theorem cut_next (n : BitVec 64) (j : Nat) : (n >>> (8 * j)) / 256#64 = n >>> (8 * (j + 1)) := by
  apply BitVec.eq_of_toNat_eq
  rw [BitVec.toNat_udiv, BitVec.toNat_ushiftRight, BitVec.toNat_ushiftRight, Nat.shiftRight_eq_div_pow, Nat.shiftRight_eq_div_pow]
  show _ / 256 = _
  rw [Nat.div_div_eq_div_mul, show 8 * (j + 1) = 8 * j + 8 by omega, Nat.pow_add]
set_option maxRecDepth 20000 in
set_option maxHeartbeats 4000000 in
theorem fn_rcut (n : BitVec 64) (k : Nat) (hk : 1 ≤ k ∧ k ≤ 4) : Fn Tryz.prog tds 16 [] [.c (.w64 n), .c (.int .i64 (k : Nat))] (fun _ => True) (fun x hs => x = .a (.c (svC 0 ⟨false, k, 0, k, cutM n k⟩)) ∧ hs = [svB ⟨false, k, 0, k, cutM n k⟩]) := by
  refine fn_of_body tds_ok follows_ Tryz.func16 rfl (t := .a (.c (.w64 n)) :: .a (.c (.int .i64 (k : Nat))) :: anys (Tryz.f16.ntmps - 2)) rfl (fun w r0 hr _ => ?_)
  obtain rfl : r0 = [] := List.eq_nil_of_length_eq_zero hr
  have hl : (cutM n k).length = k := tab_len _ _
  have e1 : decide ((k : Int) < 1) = false := decide_eq_false (by omega)
  have e2 : decide ((4 : Int) < (k : Int)) = false := decide_eq_false (by omega)
  (repeat first | (refine And.intro ?_ ?_; first | exact rfl | ((exact fun h => absurd h (by first | decide | (rw [e1]; decide) | (rw [e2]; decide))); intro yy; clear yy) | (rotate_left; (exact fun h => absurd h (by first | decide | (rw [e1]; decide) | (rw [e2]; decide))); intro yy; clear yy) | decide | omega) | (with_reducible refine frc_bytesL (by first | omega | decide) ?_) | (with_reducible refine frc_bytesM (by first | omega | decide) ?_))
  refine And.intro ⟨by omega, by omega, by show (k : Int) * 1 ≤ 140737488355328; omega, by omega⟩ ?_
  refine frcN_of (m := k) (Int.toNat_natCast k) ?_
  refine frcN_of (m := k) (Int.toNat_natCast k) ?_
  (repeat first | (refine And.intro ?_ ?_; first | exact rfl | ((exact fun h => absurd h (by first | decide)); intro yy; clear yy) | (rotate_left; (exact fun h => absurd h (by first | decide)); intro yy; clear yy) | decide | omega) | (with_reducible refine frc_bytesL (by first | omega | decide) ?_) | (with_reducible refine frc_bytesM (by first | omega | decide) ?_))
  refine .inl ⟨Nat, fun j => ⟨[.a (.c (.w64 ((n >>> (8 * j))))), .a (.c (.int .i64 ((k : Int)))), .any, .any, .any, .a (.c (.sl 0 0 0 k k)), .a (.c (.int .i64 (((k : Int) - 1 - (j : Int))))), .any, .any, .any, .any, .any, .any, .any, .any, .any, .any, .any, .any, .any, .any, .any, .any, .any, .any, .any, .any, .any], [[.row k fun i => .w8 (if k - j ≤ i then L (cutM n k) i else 0#8)]]⟩, fun j => j ≤ k, fun j => k - j, ⟨0, [0], ⟨⟨rfl, rfl, rfl⟩, ?_⟩, by omega⟩, fun j hj => ?_⟩
  · (repeat first | exact trivial | refine ent1 ?_)
    refine ⟨fun i hi => eqC_w8 (show SC.w8 0 = SC.w8 (if k - 0 ≤ i then L (cutM n k) i else 0#8) by rw [if_neg (by omega)]; rfl), trivial⟩
  · have hj : j ≤ k := hj
    by_cases h : j < k
    · have d : decide ((0 : Int) ≤ (k : Int) - 1 - (j : Int)) = true := decide_eq_true (by omega)
      (repeat first | (refine And.intro ?_ ?_; first | exact rfl | ((exact fun h => absurd h (by first | decide | (rw [d]; decide))); intro yy; clear yy) | (rotate_left; (exact fun h => absurd h (by first | decide | (rw [d]; decide))); intro yy; clear yy) | decide | omega) | (with_reducible refine frc_bytesL (by first | omega | decide) ?_) | (with_reducible refine frc_bytesM (by first | omega | decide) ?_))
      refine ⟨j + 1, [0], ⟨⟨rfl, rfl, rfl⟩, ?_⟩, by dsimp only; omega, by dsimp only; omega⟩
      refine ⟨cut_next n j, ?_⟩
      (repeat first | exact trivial | refine ent1 ?_)
      have e0 : ((k : Int) - 1 - (j : Int)).toNat + 0 = k - 1 - j := by omega
      refine ⟨fun i hi => eqC_w8 ?_, trivial⟩
      rw [e0, cut_byte]
      refine upd_w8 (g := fun i => .w8 (if k - (j + 1) ≤ i then L (cutM n k) i else 0#8)) ?_ (fun q hq => ?_) i
      · rw [if_pos (by omega)]
        refine congrArg SC.w8 ?_
        show (n >>> (8 * j)).setWidth 8 = L (tab k fun i => (n >>> (8 * (k - 1 - i))).setWidth 8) (k - 1 - j)
        rw [L_tab (by omega), show k - 1 - (k - 1 - j) = j by omega]
      · have : k - j ≤ q ↔ k - (j + 1) ≤ q := by omega
        simp only [this]
    · obtain rfl : j = k := by omega
      have d : decide ((0 : Int) ≤ (j : Int) - 1 - (j : Int)) = false := decide_eq_false (by omega)
      (repeat first | (refine And.intro ?_ ?_; first | exact rfl | ((exact fun h => absurd h (by first | decide | (rw [d]; decide))); intro yy; clear yy) | (rotate_left; (exact fun h => absurd h (by first | decide | (rw [d]; decide))); intro yy; clear yy) | decide | omega) | (with_reducible refine frc_bytesL (by first | omega | decide) ?_) | (with_reducible refine frc_bytesM (by first | omega | decide) ?_))
      refine ⟨.a (.c (svC 0 ⟨false, j, 0, j, cutM n j⟩)), [svB ⟨false, j, 0, j, cutM n j⟩], ⟨[0], ⟨rfl, rfl, rfl⟩, ?_⟩, rfl, rfl⟩
      refine ⟨rfl, rfl, hl.symm, rfl, ?_⟩
      refine ⟨rfl, fun i hi => eqC_win0 (n := (cutM n j).length) (f := fun i => SC.w8 (if j - j ≤ i then L (cutM n j) i else 0#8)) (fun q hq => ?_) i, trivial⟩
      show SC.w8 (if j - j ≤ q then L (cutM n j) q else 0#8) = _
      rw [if_pos (by omega)]
end Sx
end Go.Proofs.YtkjdkeolkigibaaGreat
end

section
/-
  The law of packets: protected, parsed, opened. No condition.
-/
namespace Go.Proofs.YtkjdkeolkigibaaGreat
set_option linter.unusedVariables false
namespace Sx
open Sha Vi Aes Gcm
set_option linter.unusedSimpArgs false
theorem sn_partM {s : Sl} (hs : s.Ok) (hz : s.z = false) {z : Bool} (hzz : z = false) {h : List (List Seg)} {e : Nat → Nat} {j m o' : Nat} {k : (Nat → SC) → Prop} (a : Nat) (hj : getH h j = mpL e (svB s)) (ho : o' = s.o + a) (hm : a + m ≤ s.l.length)
    (hk : ∀ g : Nat → SC, (∀ i, i < m → g i = .w8 (L s.l (a + i))) → k g) : ∃ f : Nat → SC, ((z = true → m = 0) ∧ (z = false → SnAt h j 0 o' m 1 f)) ∧ k f := by
  refine ⟨fun i => .w8 (L s.l (a + i)), ⟨(fun h => by rw [hzz] at h; cases h), fun _ => ?_⟩, hk _ fun _ _ => rfl⟩
  have hf := hs.fit
  exact ⟨s.N, fun i => SC.mp e (winF s.o s.l.length (L s.l) i), [], by rw [hj, svB_row hz]; rfl, by show o' + m ≤ s.N; omega, fun q hq => by
    have hq : q < m := hq
    rw [ho, show q + (s.o + a) = s.o + (a + q) by omega]
    show SC.w8 (L s.l (a + q)) = SC.mp e (winF s.o s.l.length (L s.l) (s.o + (a + q)))
    rw [winF_at _ _ _ (by omega)]
    rfl⟩
set_option maxRecDepth 20000 in
set_option maxHeartbeats 16000000 in
theorem fn_sealBack (s : Bs) (hs : s.length = 32) (h : Hd) (hfit : h.Fit) (num : BitVec 64) (acked : Int) (hac : -9223372036854775808 ≤ acked ∧ acked ≤ 9223372036854775807) (P M : Sl) (hP : P.Fit) (hM : M.Fit) :
    FnR Tryz.prog tds 5 6 (hdB h ++ [svB P, svB M]) [.agg [.row 32 fun i => .w8 (L s i)], .agg (hdC 0 1 2 3 h), .c (.w64 num), .c (.int .i64 acked), .c (svC 4 P), .c (svC 5 M)] (fun _ => True) (fun x _ => x = .a (.c (.bool true))) := by
  refine fn_of_body tds_ok follows_ Tryz.func5 rfl (t := .a (.agg [.row 32 fun i => .w8 (L s i)]) :: .a (.agg (hdC 0 1 2 3 h)) :: .a (.c (.w64 num)) :: .a (.c (.int .i64 acked)) :: .a (.c (svC 4 P)) :: .a (.c (svC 5 M)) :: anys (Tryz.f5.ntmps - 6)) rfl (fun w r0 hr _ => ?_)
  obtain ⟨x0, x1, x2, x3, x4, x5, rfl⟩ := len6' hr
  (repeat first | (refine And.intro ?_ ?_; first | exact rfl | ((exact fun h => absurd h (by first | decide)); intro yy; clear yy) | (rotate_left; (exact fun h => absurd h (by first | decide)); intro yy; clear yy) | decide | omega) | (with_reducible refine frc_bytesL (by first | omega | decide) ?_) | (with_reducible refine frc_bytesM (by first | omega | decide) ?_))
  refine call_same fn_awake12 [] rfl trivial trivial (fun _ _ => trivial) ?_
  rintro x hs' ⟨rfl, rfl⟩
  (repeat first | (refine And.intro ?_ ?_; first | exact rfl | ((exact fun h => absurd h (by first | decide)); intro yy; clear yy) | (rotate_left; (exact fun h => absurd h (by first | decide)); intro yy; clear yy) | decide | omega) | (with_reducible refine frc_bytesL (by first | omega | decide) ?_) | (with_reducible refine frc_bytesM (by first | omega | decide) ?_))
  refine call_same (fn_llight h) [0, 1, 2, 3] rfl (by (repeat first | exact trivial | refine ent1 ?_)) ?_ (fun _ _ => trivial) ?_
  · refine eqC_bts (eqC_bts (eqC_bts (eqC_bts ?_)))
    (repeat first | exact trivial | refine ent1 ?_)
  rintro x hs' ⟨rfl, rfl⟩
  cases hl : lightM h with
  | false =>
    (repeat first | (refine And.intro ?_ ?_; first | exact rfl | ((exact fun h => absurd h (by first | decide)); intro yy; clear yy) | (rotate_left; (exact fun h => absurd h (by first | decide)); intro yy; clear yy) | decide | omega) | (with_reducible refine frc_bytesL (by first | omega | decide) ?_) | (with_reducible refine frc_bytesM (by first | omega | decide) ?_))
    refine ⟨.a (.c (.bool true)), [[], [], [], [], [], []], ⟨[0, 1, 2, 3, 4, 5], ⟨rfl, rfl, rfl⟩, ?_⟩, rfl⟩
    (repeat first | exact trivial | refine ent1 ?_)
    exact eqSegs_nil (eqSegs_nil (eqSegs_nil (eqSegs_nil (eqSegs_nil (eqSegs_nil trivial)))))
  | true =>
  have ho := hfit.ok hl
  by_cases lP : 400 < P.l.length
  · have e1 : decide ((400 : Int) < (P.l.length : Int)) = true := decide_eq_true (by omega)
    (repeat first | (refine And.intro ?_ ?_; first | exact rfl | ((exact fun h => absurd h (by first | decide | (rw [e1]; decide))); intro yy; clear yy) | (rotate_left; (exact fun h => absurd h (by first | decide | (rw [e1]; decide))); intro yy; clear yy) | decide | omega) | (with_reducible refine frc_bytesL (by first | omega | decide) ?_) | (with_reducible refine frc_bytesM (by first | omega | decide) ?_))
    refine ⟨.a (.c (.bool true)), [[], [], [], [], [], []], ⟨[0, 1, 2, 3, 4, 5], ⟨rfl, rfl, rfl⟩, ?_⟩, rfl⟩
    (repeat first | exact trivial | refine ent1 ?_)
    exact eqSegs_nil (eqSegs_nil (eqSegs_nil (eqSegs_nil (eqSegs_nil (eqSegs_nil trivial)))))
  have e1 : decide ((400 : Int) < (P.l.length : Int)) = false := decide_eq_false (by omega)
  by_cases lM : 50 < M.l.length
  · have e2 : decide ((50 : Int) < (M.l.length : Int)) = true := decide_eq_true (by omega)
    (repeat first | (refine And.intro ?_ ?_; first | exact rfl | ((exact fun h => absurd h (by first | decide | (rw [e1]; decide) | (rw [e2]; decide))); intro yy; clear yy) | (rotate_left; (exact fun h => absurd h (by first | decide | (rw [e1]; decide) | (rw [e2]; decide))); intro yy; clear yy) | decide | omega) | (with_reducible refine frc_bytesL (by first | omega | decide) ?_) | (with_reducible refine frc_bytesM (by first | omega | decide) ?_))
    refine ⟨.a (.c (.bool true)), [[], [], [], [], [], []], ⟨[0, 1, 2, 3, 4, 5], ⟨rfl, rfl, rfl⟩, ?_⟩, rfl⟩
    (repeat first | exact trivial | refine ent1 ?_)
    exact eqSegs_nil (eqSegs_nil (eqSegs_nil (eqSegs_nil (eqSegs_nil (eqSegs_nil trivial)))))
  have e2 : decide ((50 : Int) < (M.l.length : Int)) = false := decide_eq_false (by omega)
  have oP := hP.ok (by omega)
  have oM := hM.ok (by omega)
  obtain ⟨kq, hkq⟩ : ∃ v, exF s (labT qKey [] 16) = v := ⟨_, rfl⟩
  obtain ⟨iv, hiv⟩ : ∃ v, exF s (labT qIv [] 12) = v := ⟨_, rfl⟩
  obtain ⟨kh, hkh⟩ : ∃ v, exF s (labT qHp [] 16) = v := ⟨_, rfl⟩
  obtain ⟨K, hK⟩ : ∃ v, pKeys kq = v := ⟨_, rfl⟩
  obtain ⟨K2, hK2⟩ : ∃ v, pKeys kh = v := ⟨_, rfl⟩
  obtain ⟨E, hE⟩ : ∃ v, pTurn kq = v := ⟨_, rfl⟩
  obtain ⟨HH, hHH⟩ : ∃ H, toE (E fun _ => 0#8) = H := ⟨_, rfl⟩
  (repeat first | (refine And.intro ?_ ?_; first | exact rfl | ((exact fun h => absurd h (by first | decide | (rw [e1]; decide) | (rw [e2]; decide))); intro yy; clear yy) | (rotate_left; (exact fun h => absurd h (by first | decide | (rw [e1]; decide) | (rw [e2]; decide))); intro yy; clear yy) | decide | omega) | (with_reducible refine frc_bytesL (by first | omega | decide) ?_) | (with_reducible refine frc_bytesM (by first | omega | decide) ?_))
  refine call_same (fn_hfit h ho) [0, 1, 2, 3] rfl (by (repeat first | exact trivial | refine ent1 ?_)) ?_ (fun _ _ => trivial) ?_
  · refine eqC_bts (eqC_bts (eqC_bts (eqC_bts ?_)))
    (repeat first | exact trivial | refine ent1 ?_)
  rintro x hs' ⟨c0, hc0, rfl, rfl⟩
  have st : Sub h.t (fitM h c0).t := cutS_sub _ _
  have sf := fitM_f_sub h c0
  have sk := fitM_k_sub h c0
  have Ho := fitM_ok ho hc0
  have h0H := fitM_check h c0
  obtain ⟨H, hH⟩ : ∃ H, fitM h c0 = H := ⟨_, rfl⟩
  rw [hH] at st sf sk Ho h0H ⊢
  (repeat first | (refine And.intro ?_ ?_; first | exact rfl | ((exact fun h => absurd h (by first | decide)); intro yy; clear yy) | (rotate_left; (exact fun h => absurd h (by first | decide)); intro yy; clear yy) | decide | omega) | (with_reducible refine frc_bytesL (by first | omega | decide) ?_) | (with_reducible refine frc_bytesM (by first | omega | decide) ?_))
  refine ⟨some [6], [], [(1, true), (0, false), (2, false), (3, true)], [], by kernel_rfl, ?_⟩
  (repeat first | (refine And.intro ?_ ?_; first | exact rfl | ((exact fun h => absurd h (by first | decide)); intro yy; clear yy) | (rotate_left; (exact fun h => absurd h (by first | decide)); intro yy; clear yy) | decide | omega) | (with_reducible refine frc_bytesL (by first | omega | decide) ?_) | (with_reducible refine frc_bytesM (by first | omega | decide) ?_))
  refine call_same fn_keysNew [] rfl trivial trivial (fun _ _ => trivial) ?_
  rintro x hs' ⟨rfl, rfl⟩
  (repeat first | (refine And.intro ?_ ?_; first | exact rfl | ((exact fun h => absurd h (by first | decide)); intro yy; clear yy) | (rotate_left; (exact fun h => absurd h (by first | decide)); intro yy; clear yy) | decide | omega) | (with_reducible refine frc_bytesL (by first | omega | decide) ?_) | (with_reducible refine frc_bytesM (by first | omega | decide) ?_))
  refine call_same (fn_kOf s 0 (fun _ => 0#32) (fun _ => 0#32) (.inl rfl) hs 0 (fun _ => 0#8) 0 (.inl rfl) (by omega) kq K kh K2 iv E HH hkq hiv hkh hK hE hHH hK2) [12, 10, 11] rfl (by (repeat first | exact trivial | refine ent1 ?_)) (by (repeat first | exact trivial | refine ent1 ?_)) (fun _ _ => trivial) ?_
  rintro x hs' ⟨dn, f, g, hd, rfl, rfl⟩
  (repeat first | (refine And.intro ?_ ?_; first | exact rfl | ((exact fun h => absurd h (by first | decide)); intro yy; clear yy) | (rotate_left; (exact fun h => absurd h (by first | decide)); intro yy; clear yy) | decide | omega) | (with_reducible refine frc_bytesL (by first | omega | decide) ?_) | (with_reducible refine frc_bytesM (by first | omega | decide) ?_))
  obtain ⟨N, hNn⟩ : ∃ v, num % 1099511627776#64 = v := ⟨_, rfl⟩
  obtain ⟨ac, hac2⟩ : ∃ v, (if acked.tmod 1099511627776 < -1 then -1 else acked.tmod 1099511627776) = v := ⟨_, rfl⟩
  rw [hNn, hac2]
  have hN40 : N.toNat < 1099511627776 := by
    rw [← hNn, BitVec.toNat_umod]
    exact Nat.mod_lt _ (by decide)
  have hacb : -1 ≤ ac ∧ ac < 1099511627776 := by
    have h1 := Int.tmod_lt_of_pos acked (show (0 : Int) < 1099511627776 by decide)
    rw [← hac2]
    split <;> omega
  obtain ⟨k, hk⟩ : ∃ v, sizeM N ac = v := ⟨_, rfl⟩
  have hk14 := sizeM_le N ac
  rw [hk] at hk14
  obtain ⟨hN, hhN⟩ : ∃ v, numH H N k = v := ⟨_, rfl⟩
  have hch : checkM hN = 0 := by rw [← hhN]; exact numH_check h0H _ hk14.1 hk14.2
  have hnl : hN.n.l = cutM N k := by rw [← hhN]; rfl
  have hln : hN.n.l.length = k := by rw [hnl]; exact tab_len _ _
  obtain ⟨pl, hpl⟩ : ∃ v, P.l ++ List.replicate (4 - k - P.l.length) 0#8 = v := ⟨_, rfl⟩
  have lpl : pl.length = P.l.length + (4 - k - P.l.length) := by rw [← hpl, List.length_append, List.length_replicate]
  obtain ⟨op, hop⟩ : ∃ v, putH hN (pl.length + 16) = v := ⟨_, rfl⟩
  have lop : op.length ≤ 200 := by rw [← hop]; exact putH_le hch _
  obtain ⟨AA, q1, q2⟩ := putH_n hN (pl.length + 16)
  obtain ⟨at_, hat⟩ : ∃ v, AA.length = v := ⟨_, rfl⟩
  have lop1 : op.length = at_ + k := by rw [← hop, q1, List.length_append, hln, hat]
  obtain ⟨S, hS⟩ : ∃ S, sealL E HH (nonB iv N) op pl = S := ⟨_, rfl⟩
  obtain ⟨R, hR⟩ : ∃ R, pTurn kh (smpB (op ++ S) at_) = R := ⟨_, rfl⟩
  obtain ⟨W, hW⟩ : ∃ W, maskL R (hidB H.sp) at_ k (op ++ S) = W := ⟨_, rfl⟩
  have hsp : hN.sp = H.sp := by rw [← hhN]; rfl
  have hpE : putE hN ((pl.length : Int) + 16) = 0 := by unfold putE; rw [if_neg (fun e => e hch), if_neg (by omega)]
  obtain ⟨EN, hEN⟩ : ∃ v, at_ + k + pl.length + 16 = v := ⟨_, rfl⟩
  have pkA : ∀ mo : Bs, (H.sp = 2#8 → mo = []) → Packet hN op S W mo pl at_ k EN R E HH (nonB iv N) := by
    intro mo hm
    rw [← hEN]
    exact packet hch hln (by omega) (by omega) hop hS lop1 R (by rw [hsp]; exact hW) (by rw [hsp]; exact hm)
  have hgw : BitVec.ofNat 64 (wholeN (cutM N k) (((N.toNat : Int) - 1) + 1).toNat) = N := by
    rw [show ((N.toNat : Int) - 1 + 1).toNat = N.toNat by omega, whole_cut N hk14.1 hk14.2]
    exact (nof N).symm
  refine call_same (fn_protect H Ho P oP (by omega) N (by rw [BitVec.lt_def]; show ¬ 4611686018427387903 < N.toNat; omega) ac (by omega) (0 + 1) (by omega) kq kh K K2 iv R E HH hK hE hK2 k hk hN hhN pl hpl 0 hpE op hop S hS at_ lop1 (by omega) hR) [0, 1, 2, 8, 4, 13, 11, 14, 15, 16] rfl (by (repeat first | exact trivial | refine ent1 ?_)) ?_ (fun _ _ => trivial) ?_
  · refine st.ent (sf.ent (sk.ent (eqC_btsM ?_)))
    refine eqC_bts ?_
    (repeat first | exact trivial | refine ent1 ?_)
  rintro x hs' ⟨-, hres⟩
  obtain ⟨c1, cnt1, hc1, hc2, hc3, rfl, rfl⟩ := hres rfl
  clear hres
  rw [hW]
  have lB : (op ++ S).length = W.length := by rw [← hW, maskL_len]
  have lW : W.length = EN := (pkA [] (fun _ => rfl)).len
  have lEN : EN ≤ 700 := by omega
  rw [lB, lW]
  rw [lB, lW] at hc3
  (repeat first | (refine And.intro ?_ ?_; first | exact rfl | ((exact fun h => absurd h (by first | decide)); intro yy; clear yy) | (rotate_left; (exact fun h => absurd h (by first | decide)); intro yy; clear yy) | decide | omega) | (with_reducible refine frc_bytesL (by first | omega | decide) ?_) | (with_reducible refine frc_bytesM (by first | omega | decide) ?_))
  by_cases hs2 : H.sp = 2#8
  · have e3 : decide (H.sp ≠ 2#8) = false := decide_eq_false (fun e => e hs2)
    (repeat first | (refine And.intro ?_ ?_; first | exact rfl | ((exact fun h => absurd h (by first | decide | (rw [e3]; decide))); intro yy; clear yy) | (rotate_left; (exact fun h => absurd h (by first | decide | (rw [e3]; decide))); intro yy; clear yy) | decide | omega) | (with_reducible refine frc_bytesL (by first | omega | decide) ?_) | (with_reducible refine frc_bytesM (by first | omega | decide) ?_))
    obtain ⟨mo, hm0⟩ : ∃ v : Bs, v = [] := ⟨_, rfl⟩
    have hmo : H.sp = 2#8 → mo = [] := fun _ => hm0
    obtain ⟨cb, hcb⟩ : ∃ v, c1 = v := ⟨_, rfl⟩
    subst hcb
    have hWm : W ++ mo = W := by rw [hm0, List.append_nil]
    have oB : Sl.Ok ⟨false, c1, 0, c1, W ++ mo⟩ := by rw [hWm]; exact own_ok (by omega) (by omega)
    have hlen : EN = (W ++ mo).length := by rw [hWm, lW]
    obtain ⟨cb, hcb⟩ : ∃ v, c1 = v := ⟨_, rfl⟩
    have rowB : ∀ {g1 : Nat → Nat} (i : Nat), i < (W ++ mo).length → SC.mp g1 (bytesF W.length (L W) i) = .w8 (L (W ++ mo) i) := by
      intro g1 i hi
      rw [hWm] at hi ⊢
      rw [bytesF_lt hi]
      rfl
    rw [hcb] at oB ⊢
    have pk := pkA mo hmo
    have lbS : (W ++ mo).length = W.length + mo.length := List.length_append
    have hpar : parseP (W ++ mo) (H.t.l.length : Nat) = .ok H.sp H.t.l H.f.l H.k.l at_ EN := by
      have := pk.par
      rw [← hhN] at this
      exact this
    have tk : (W ++ mo).take EN = W := pk.tk
    have hsm : smpB ((W ++ mo).take EN) at_ = smpB (op ++ S) at_ := by rw [tk]; exact pk.smp
    have hbk : maskL R (hidB H.sp) at_ k ((W ++ mo).take EN) = op ++ S := by rw [tk, ← hsp]; exact pk.back
    have hf0 : L (W ++ mo) 0 ^^^ (R 0 &&& hidB H.sp) = fstB hN := by rw [← hsp]; exact pk.f0
    have hno0 : noneB H.sp (fstB hN) = 0#8 := by rw [← hsp]; exact pk.none
    have hp1 : 1 ≤ at_ := pk.ha
    have hp2 : at_ + 20 ≤ EN := pk.he
    have hle : EN ≤ (W ++ mo).length := by omega
    have hpl16 : EN - (at_ + k) - 16 = pl.length := by omega
    refine call_same (fn_parse ⟨false, cb, 0, cb, W ++ mo⟩ oB (H.t.l.length : Nat)) [17] rfl ?_ ?_ (fun _ _ => trivial) ?_
    · (repeat first | exact trivial | refine ent1 ?_)
    · refine ⟨rfl, fun j hj => eqC_win0 (fun i hi => rowB i hi) j, ?_⟩
      (repeat first | exact trivial | refine ent1 ?_)
    rintro x hs' hres
    rw [show parseP (Sl.l ⟨false, cb, 0, cb, W ++ mo⟩) (H.t.l.length : Nat) = _ from hpar] at hres
    obtain ⟨T, F, KK, hT, hF, hKK, eT, eF, eK, rfl, rfl⟩ := hres
    have hN63 : N.toNat ≤ 9223372036854775807 := by omega
    (repeat first | (refine And.intro ?_ ?_; first | exact rfl | ((exact fun h => absurd h (by first | decide)); intro yy; clear yy) | (rotate_left; (exact fun h => absurd h (by first | decide)); intro yy; clear yy) | decide | omega) | (with_reducible refine frc_bytesL (by first | omega | decide) ?_) | (with_reducible refine frc_bytesM (by first | omega | decide) ?_))
    refine call_same (fn_unprotect H.sp T F KK ⟨false, cb, 0, cb, W ++ mo⟩ hT hF hKK oB at_ EN ((N.toNat : Int) - 1) (by omega) hp1 hle hp2 cnt1 (by omega) kq kh K K2 iv R E HH hK hE hK2 (by rw [hsm]; exact hR) (fstB hN) hf0 k pk.many (op ++ S) hbk N (by rw [pk.tn, hnl]; exact hgw) op S pl pk.tA pk.tC _ rfl pk.cry) [18, 19, 20, 17, 13, 11, 14, 15, 16] rfl ?_ ?_ (fun _ _ => trivial) ?_
    · (repeat first | exact trivial | refine ent1 ?_)
    · refine eqC_btsM (eqC_btsM (eqC_btsM ?_))
      refine ⟨rfl, fun j hj => eqC_win0 (fun i hi => rowB i hi) j, ?_⟩
      (repeat first | exact trivial | refine ent1 ?_)
    rintro x hs' ⟨-, -, -, hres⟩
    obtain ⟨g', hg', g1, g2, g3, g4, g5, g6, rfl, rfl⟩ := hres hno0 (by omega) pk.tag
    clear hres
    rw [hpl16]
    obtain ⟨cnt2, hcn⟩ : ∃ v, cnt1 + 1 + 1 + ((EN - (at_ + k) - 1) / 16 : Nat) = v := ⟨_, rfl⟩
    have hcn2 : 0 ≤ cnt2 ∧ cnt2 ≤ 800000000 := by omega
    rw [hcn]
    (repeat first | (refine And.intro ?_ ?_; first | exact rfl | ((exact fun h => absurd h (by first | decide)); intro yy; clear yy) | (rotate_left; (exact fun h => absurd h (by first | decide)); intro yy; clear yy) | decide | omega) | (with_reducible refine frc_bytesL (by first | omega | decide) ?_) | (with_reducible refine frc_bytesM (by first | omega | decide) ?_))
    refine sn_bts rfl oP.fit (fun h => by rw [oP.nil h]; rfl) (fun gP hgP => ?_)
    refine ⟨⟨by omega, by simp only [scale]; omega, by show (0 + P.l.length) * 1 ≤ 140737488355328; omega⟩, fun c3 hc3 => ?_⟩
    (repeat first | (refine And.intro ?_ ?_; first | exact rfl | ((exact fun h => absurd h (by first | decide)); intro yy; clear yy) | (rotate_left; (exact fun h => absurd h (by first | decide)); intro yy; clear yy) | decide | omega) | (with_reducible refine frc_bytesL (by first | omega | decide) ?_) | (with_reducible refine frc_bytesM (by first | omega | decide) ?_))
    refine call_same (fn_rsize N ac (by omega)) [] rfl (by (repeat first | exact trivial | refine ent1 ?_)) trivial (fun _ _ => trivial) ?_
    rintro x hs' ⟨rfl, rfl⟩
    rw [hk]
    (repeat first | (refine And.intro ?_ ?_; first | exact rfl | ((exact fun h => absurd h (by first | decide)); intro yy; clear yy) | (rotate_left; (exact fun h => absurd h (by first | decide)); intro yy; clear yy) | decide | omega) | (with_reducible refine frc_bytesL (by first | omega | decide) ?_) | (with_reducible refine frc_bytesM (by first | omega | decide) ?_))
    have rowP : ∀ i, i < P.l.length → appF (nthC []) 0 (scale 0 (0 + 1)) (scale P.l.length (0 + 1)) gP i = .w8 (L P.l i) := fun i hi => app_row (l := []) (m := P.l) rfl rfl (fun i hi => absurd hi (by simp)) hgP i (by simpa using hi)
    refine .inl ⟨Bs × Nat, fun x => ⟨[.any, .any, .a (.c (.w64 (N))), .any, .any, .any, .any, .any, .any, .any, .any, .any, .any, .a (.c (.p 6 0 0)), .a (.c (.p 8 0 0)), .a (.c (.sl 11 0 0 (W ++ mo).length cb)), .any, .a (.c (.p 15 0 0)), .any, .a (.c (.p 21 0 0)), .a (.c (.int .i64 (0))), .a (.c (.sl 22 0 0 x.1.length x.2)), .a (.c (.int .i64 ((k : Int)))), .any, .any, .any, .any, .any, .any, .any, .any, .any, .any, .any, .any, .any, .any, .any, .any, .any, .any, .any, .any, .any, .any, .any, .any, .any, .any, .any, .any, .any, .any, .any, .any, .any, .any, .any, .any, .any, .any, .any, .any, .any, .any, .any, .any, .any, .any, .any, .any, .any, .any, .any, .any, .any, .any, .any, .any, .any, .any, .any, .any, .any, .any, .any, .any, .any, .any, .any, .any, .any, .any, .any, .any, .any, .any, .any, .any, .any, .any, .any, .any, .any, .any, .any, .any, .any, .any, .any, .any, .any, .any, .any, .any, .any, .any, .any, .any, .any, .any, .any, .any, .any, .any, .any, .any, .any, .any, .any, .any, .any, .any, .any, .any, .any, .any, .any, .any, .any, .any, .any, .any, .any, .any, .any, .any, .any, .any, .any, .any, .any, .any, .any, .any, .any, .any, .any, .any, .any, .any, .any, .any, .any, .any, .any], [svB h.t, svB h.f, svB h.k, svB h.n, svB P, svB M, hdC 0 1 2 7 H, svB H.n, kyM 10, tabs 1 0 boxes cnt2, keyD 9 K2, svB ⟨false, cb, 0, cb, W ++ mo⟩, svB T, svB F, svB KK, psI 12 13 14 H.sp T F KK at_ EN, svB g'.t, svB g'.f, svB g'.k, svB g'.n, [.row (EN - (at_ + k)) (bytesF pl.length (L pl))], pkC 16 17 18 19 20 g' N pl.length (EN - (at_ + k)), lsC x.1 x.2]⟩, fun x => plP P.l k (some x), fun x => plM (some x), ⟨(P.l, c3), [0, 1, 2, 3, 4, 5, 9, 8, 13, 11, 16, 17, 18, 19, 20, 21, 22, 23, 24, 25, 26, 27, 29], ⟨⟨rfl, rfl, rfl⟩, ?_⟩, ⟨by omega, 0, by rw [List.replicate_zero, List.append_nil], .inl rfl⟩⟩, fun x hx => ?_⟩
    · (repeat first | exact trivial | refine ent1 ?_)
      refine ⟨Nat.zero_add _, rfl, ?_⟩
      (repeat first | exact trivial | refine ent1 ?_)
      refine eqC_bts (eqC_bts (eqC_bts (eqC_bts (eqC_bts (eqC_bts ?_)))))
      (repeat first | exact trivial | refine ent1 ?_)
      refine eqC_btsM ?_
      (repeat first | exact trivial | refine ent1 ?_)
      refine ⟨fun j hj => eqC_win0 (fun i hi => rowB i hi) j, ?_⟩
      refine eqC_btsM (eqC_btsM (eqC_btsM ?_))
      (repeat first | exact trivial | refine ent1 ?_)
      refine eqC_btsM (eqC_btsM (eqC_btsM (eqC_btsM ?_)))
      (repeat first | exact trivial | refine ent1 ?_)
      exact ⟨fun j hj => eqC_bytes (fun i hi => rowP i hi) j, trivial⟩
    · obtain ⟨qw, cw⟩ := x
      dsimp only
      obtain ⟨hqc, j, hqj, hjk⟩ := hx
      have hqc : qw.length ≤ cw := hqc
      have lq : qw.length = P.l.length + j := by rw [hqj, List.length_append, List.length_replicate]
      by_cases h4 : qw.length + k < 4
      · have d4 : decide ((qw.length : Int) + (k : Int) < 4) = true := decide_eq_true (by omega)
        (repeat first | (refine And.intro ?_ ?_; first | exact rfl | ((exact fun h => absurd h (by first | decide | (rw [d4]; decide))); intro yy; clear yy) | (rotate_left; (exact fun h => absurd h (by first | decide | (rw [d4]; decide))); intro yy; clear yy) | decide | omega) | (with_reducible refine frc_bytesL (by first | omega | decide) ?_) | (with_reducible refine frc_bytesM (by first | omega | decide) ?_))
        refine ⟨⟨hqc, (by show 0 + cw ≤ cw; omega), by show (qw.length + 1) * 1 ≤ 140737488355328; omega⟩, fun c' hc' => ?_⟩
        have lq1 : (qw ++ [0#8]).length = qw.length + 1 := by rw [List.length_append]; rfl
        refine ⟨(qw ++ [0#8], c'), [0, 1, 2, 3, 4, 5, 6, 7, 8, 9, 10, 11, 12, 13, 14, 15, 16, 17, 18, 19, 20, 21, 24], ⟨⟨rfl, rfl, rfl⟩, ?_⟩, ⟨(by show (qw ++ [0#8]).length ≤ c'; omega), j + 1, by rw [List.replicate_succ', ← List.append_assoc, ← hqj], .inr (by show (qw ++ [0#8]).length + k ≤ 4; omega)⟩, by show 4 - (qw ++ [0#8]).length < 4 - qw.length; omega⟩
        (repeat first | exact trivial | refine ent1 ?_)
        refine ⟨lq1.symm, rfl, ?_⟩
        (repeat first | exact trivial | refine ent1 ?_)
        refine eqC_bts (eqC_bts (eqC_bts (eqC_bts (eqC_bts (eqC_bts ?_)))))
        (repeat first | exact trivial | refine ent1 ?_)
        refine eqC_bts ?_
        (repeat first | exact trivial | refine ent1 ?_)
        refine eqC_bts (eqC_bts (eqC_bts ?_))
        (repeat first | exact trivial | refine ent1 ?_)
        refine eqC_bts (eqC_bts (eqC_bts (eqC_bts ?_)))
        (repeat first | exact trivial | refine ent1 ?_)
        refine ⟨fun i hi => eqC_bytes (fun i hi => ?_) i, trivial⟩
        exact app_row (l := qw) (m := [0#8]) rfl rfl (fun i hi => bytesF_lt hi) (fun i hi => one_row rfl i hi) i (by rw [lq1] at hi; exact hi)
      have d4 : decide ((qw.length : Int) + (k : Int) < 4) = false := decide_eq_false (by omega)
      obtain rfl : qw = pl := by
        rw [hqj, ← hpl]
        rw [show j = 4 - k - P.l.length by omega]
      (repeat first | (refine And.intro ?_ ?_; first | exact rfl | ((exact fun h => absurd h (by first | decide | (rw [d4]; decide))); intro yy; clear yy) | (rotate_left; (exact fun h => absurd h (by first | decide | (rw [d4]; decide))); intro yy; clear yy) | decide | omega) | (with_reducible refine frc_bytesL (by first | omega | decide) ?_) | (with_reducible refine frc_bytesM (by first | omega | decide) ?_))
      refine call_same (fn_rcut N k hk14) [] rfl (by (repeat first | exact trivial | refine ent1 ?_)) trivial (fun _ _ => trivial) ?_
      rintro x hs' ⟨rfl, rfl⟩
      have eNN : decide (N ≠ N) = false := decide_eq_false (fun e => e rfl)
      have eU : (!decide (U8 qw = U8 qw)) = false := by rw [decide_eq_true rfl]; rfl
      (repeat first | (refine And.intro ?_ ?_; first | exact rfl | ((exact fun h => absurd h (by first | decide | (rw [eNN]; decide))); intro yy; clear yy) | (rotate_left; (exact fun h => absurd h (by first | decide | (rw [eNN]; decide))); intro yy; clear yy) | decide | omega) | (with_reducible refine frc_bytesL (by first | omega | decide) ?_) | (with_reducible refine frc_bytesM (by first | omega | decide) ?_))
      refine And.intro (by simp only [scale]; omega) ?_
      refine ⟨U8 qw, str_of (M := qw) rfl (fun q hq => ?_), ?_⟩
      · show bytesF _ _ (q + 0) = _
        rw [Nat.add_zero, bytesF_lt hq]
      (repeat first | (refine And.intro ?_ ?_; first | exact rfl | ((exact fun h => absurd h (by first | decide | (rw [eNN]; decide) | (rw [eU]; decide))); intro yy; clear yy) | (rotate_left; (exact fun h => absurd h (by first | decide | (rw [eNN]; decide) | (rw [eU]; decide))); intro yy; clear yy) | decide | omega) | (with_reducible refine frc_bytesL (by first | omega | decide) ?_) | (with_reducible refine frc_bytesM (by first | omega | decide) ?_))
      refine And.intro (by simp only [scale]; omega) ?_
      refine ⟨U8 qw, str_of (M := qw) rfl (fun q hq => ?_), ?_⟩
      · show bytesF _ _ (q + 0) = _
        rw [Nat.add_zero, bytesF_lt hq]
      (repeat first | (refine And.intro ?_ ?_; first | exact rfl | ((exact fun h => absurd h (by first | decide | (rw [eNN]; decide) | (rw [eU]; decide))); intro yy; clear yy) | (rotate_left; (exact fun h => absurd h (by first | decide | (rw [eNN]; decide) | (rw [eU]; decide))); intro yy; clear yy) | decide | omega) | (with_reducible refine frc_bytesL (by first | omega | decide) ?_) | (with_reducible refine frc_bytesM (by first | omega | decide) ?_))
      have lcut : (cutM N k).length = k := tab_len _ _
      have oN : hN.Ok := by rw [← hhN]; exact ⟨Ho.t, Ho.f, Ho.k, own_ok (by rw [lcut]; exact Nat.le_refl _) (by rw [lcut]; omega)⟩
      have hqs : ∀ gx : Hd, gx.sp = H.sp → gx.t.l = T.l → gx.f.l = F.l → gx.k.l = KK.l → gx.turn = (if H.sp = 2#8 then decide (fstB hN &&& 4#8 ≠ 0#8) else false) → gx.n.l = ((op ++ S).drop at_).take k → sameM gx hN = true := by
        intro gx a1 a2 a3 a4 a5 a6
        refine decide_eq_true ⟨a1.trans hsp.symm, a5.trans (by have := pk.turn; rw [hsp] at this; exact this), a2.trans (eT.trans (by rw [← hhN]; rfl)), a3.trans (eF.trans (by rw [← hhN]; rfl)), a4.trans (eK.trans (by rw [← hhN]; rfl)), a6.trans pk.tn⟩
      refine call_same (fn_hsame g' hN hg' oN) [16, 17, 18, 19, 0, 1, 2, 23] rfl ?_ ?_ (fun _ _ => trivial) ?_
      · rw [← hhN]
        (repeat first | exact trivial | refine ent1 ?_)
        done
      · refine eqC_bts (eqC_bts (eqC_bts (eqC_bts ?_)))
        rw [← hhN]
        refine st.ent (sf.ent (sk.ent ?_))
        (repeat first | exact trivial | refine ent1 ?_)
        done
      rintro x hs' ⟨rfl, rfl⟩
      rw [hqs g' g1 g2 g3 g4 g5 g6]
      (repeat first | (refine And.intro ?_ ?_; first | exact rfl | ((exact fun h => absurd h (by first | decide | (rw [eNN]; decide) | (rw [eU]; decide))); intro yy; clear yy) | (rotate_left; (exact fun h => absurd h (by first | decide | (rw [eNN]; decide) | (rw [eU]; decide))); intro yy; clear yy) | decide | omega) | (with_reducible refine frc_bytesL (by first | omega | decide) ?_) | (with_reducible refine frc_bytesM (by first | omega | decide) ?_))
      refine call_same (fn_shown H.sp T F KK ⟨false, cb, 0, cb, W ++ mo⟩ hT hF hKK oB at_ EN hp1 hle hp2 cnt2 (by omega) kh K2 R hK2 (by rw [hsm]; exact hR) (fstB hN) hf0 (op ++ S) (by rw [pk.many]; exact hbk)) [12, 13, 14, 11, 8, 9, 10] rfl (by (repeat first | exact trivial | refine ent1 ?_)) ?_ (fun _ _ => trivial) ?_
      · refine eqC_bts (eqC_bts (eqC_bts ?_))
        (repeat first | exact trivial | refine ent1 ?_)
      rintro x hs' ⟨-, hyes⟩
      obtain ⟨SH, g2', oSH, lSH, og2, b1, b2, b3, b4, b5, b6, rfl, rfl⟩ := hyes hno0
      clear hyes
      rw [pk.many] at b6
      (repeat first | (refine And.intro ?_ ?_; first | exact rfl | ((exact fun h => absurd h (by first | decide)); intro yy; clear yy) | (rotate_left; (exact fun h => absurd h (by first | decide)); intro yy; clear yy) | decide | omega) | (with_reducible refine frc_bytesL (by first | omega | decide) ?_) | (with_reducible refine frc_bytesM (by first | omega | decide) ?_))
      refine ⟨none, [], [(0, true), (1, true), (2, true), (3, true), (4, true), (5, false), (6, true), (7, true), (8, true), (9, true), (10, true), (11, true), (12, true), (13, true), (14, true), (15, true), (16, true), (17, true), (18, true), (19, true), (20, true), (21, true), (22, true), (23, true), (24, true), (25, true), (26, true), (27, true), (28, true), (29, true)], [], by kernel_rfl, ?_⟩
      (repeat first | (refine And.intro ?_ ?_; first | exact rfl | ((exact fun h => absurd h (by first | decide)); intro yy; clear yy) | (rotate_left; (exact fun h => absurd h (by first | decide)); intro yy; clear yy) | decide | omega) | (with_reducible refine frc_bytesL (by first | omega | decide) ?_) | (with_reducible refine frc_bytesM (by first | omega | decide) ?_))
      refine call_same (fn_hsame g2' hN og2 oN) [25, 26, 27, 28, 0, 1, 2, 23] rfl ?_ ?_ (fun _ _ => trivial) ?_
      · rw [← hhN]
        (repeat first | exact trivial | refine ent1 ?_)
      · refine eqC_btsM (eqC_btsM (eqC_btsM (eqC_btsM ?_)))
        rw [← hhN]
        refine st.ent (sf.ent (sk.ent ?_))
        (repeat first | exact trivial | refine ent1 ?_)
      rintro x hs' ⟨rfl, rfl⟩
      rw [hqs g2' b1 b2 b3 b4 b5 b6]
      have lSE : SH.l.length = EN := by rw [lSH, lB, lW]
      have hSz : SH.z = false := oSH.pos (by omega)
      have hSc := oSH.cap
      have eSE : decide ((SH.l.length : Int) = (EN : Int)) = true := decide_eq_true (by omega)
      have eUC : decide (U8 (cutM N k) = U8 (cutM N k)) = true := decide_eq_true rfl
      (repeat first | (refine And.intro ?_ ?_; first | exact rfl | ((exact fun h => absurd h (by first | decide | (rw [eSE]; decide))); intro yy; clear yy) | (rotate_left; (exact fun h => absurd h (by first | decide | (rw [eSE]; decide))); intro yy; clear yy) | decide | omega) | (with_reducible refine frc_bytesL (by first | omega | decide) ?_) | (with_reducible refine frc_bytesM (by first | omega | decide) ?_))
      refine sn_partM oSH hSz hSz at_ rfl ?_ ?_ (fun gs hgs => ?_)
      · have e : ¬ SH.c = (at_ : Int).toNat := by omega
        rw [if_neg e]
        show SH.o + (at_ : Int).toNat * 1 = SH.o + at_
        rw [Int.toNat_natCast, Nat.mul_one]
      · omega
      refine ⟨U8 (cutM N k), str_of (M := cutM N k) (by omega) (fun q hq => ?_), ?_⟩
      · have hq2 : q < k := by omega
        rw [hgs q hq, lSH, ← hnl, ← pk.tn, L_take _ _ _ hq2, L_drop]
      (repeat first | (refine And.intro ?_ ?_; first | exact rfl | ((exact fun h => absurd h (by first | decide | (rw [eSE]; decide))); intro yy; clear yy) | (rotate_left; (exact fun h => absurd h (by first | decide | (rw [eSE]; decide))); intro yy; clear yy) | decide | omega) | (with_reducible refine frc_bytesL (by first | omega | decide) ?_) | (with_reducible refine frc_bytesM (by first | omega | decide) ?_))
      refine sn_btsM rfl (by show 0 + (cutM N k).length ≤ k; omega) (fun h => Bool.noConfusion h) (fun gc hgc => ?_)
      refine ⟨U8 (cutM N k), str_of (M := cutM N k) rfl hgc, ?_⟩
      (repeat first | (refine And.intro ?_ ?_; first | exact rfl | ((exact fun h => absurd h (by first | decide | (rw [eSE]; decide) | (rw [eUC]; decide))); intro yy; clear yy) | (rotate_left; (exact fun h => absurd h (by first | decide | (rw [eSE]; decide) | (rw [eUC]; decide))); intro yy; clear yy) | decide | omega) | (with_reducible refine frc_bytesL (by first | omega | decide) ?_) | (with_reducible refine frc_bytesM (by first | omega | decide) ?_))
      refine ⟨.a (.c (.bool true)), [[], [], [], [], [], []], ⟨[0, 1, 2, 3, 4, 5], ⟨rfl, rfl, rfl⟩, ?_⟩, rfl⟩
      refine ⟨eUC, ?_⟩
      exact eqSegs_nil (eqSegs_nil (eqSegs_nil (eqSegs_nil (eqSegs_nil (eqSegs_nil trivial)))))
  · have e3 : decide (H.sp ≠ 2#8) = true := decide_eq_true hs2
    (repeat first | (refine And.intro ?_ ?_; first | exact rfl | ((exact fun h => absurd h (by first | decide | (rw [e3]; decide))); intro yy; clear yy) | (rotate_left; (exact fun h => absurd h (by first | decide | (rw [e3]; decide))); intro yy; clear yy) | decide | omega) | (with_reducible refine frc_bytesL (by first | omega | decide) ?_) | (with_reducible refine frc_bytesM (by first | omega | decide) ?_))
    refine sn_bts rfl oM.fit (fun h => by rw [oM.nil h]; rfl) (fun gM hgM => ?_)
    refine ⟨⟨hc3, (show 0 + c1 ≤ c1 by omega), by show (EN + M.l.length) * 1 ≤ 140737488355328; omega⟩, fun cb hcb => ?_⟩
    obtain ⟨mo, hm0⟩ : ∃ v : Bs, M.l = v := ⟨_, rfl⟩
    have hmo : H.sp = 2#8 → mo = [] := fun e => absurd e hs2
    have lmo : mo.length = M.l.length := by rw [hm0]
    have oB : Sl.Ok ⟨false, cb, 0, cb, W ++ mo⟩ := own_ok (by rw [List.length_append]; omega) (by rw [List.length_append]; omega)
    have hlen : EN + M.l.length = (W ++ mo).length := by rw [List.length_append, lW, lmo]
    have rowB : ∀ {g1 : Nat → Nat} (i : Nat), i < (W ++ mo).length → appF (fun j => SC.mp g1 (bytesF W.length (L W) j)) 0 (scale EN (0 + 1)) (scale M.l.length (0 + 1)) gM i = .w8 (L (W ++ mo) i) := by
      intro g1 i hi
      exact app_row (l := W) (m := mo) lW lmo (fun i hi => by show SC.mp _ (bytesF W.length (L W) i) = _; rw [bytesF_lt (by omega)]; rfl) (by rw [← hm0]; exact hgM) i (by rw [← hlen] at hi; exact hi)
    (repeat first | (refine And.intro ?_ ?_; first | exact rfl | ((exact fun h => absurd h (by first | decide)); intro yy; clear yy) | (rotate_left; (exact fun h => absurd h (by first | decide)); intro yy; clear yy) | decide | omega) | (with_reducible refine frc_bytesL (by first | omega | decide) ?_) | (with_reducible refine frc_bytesM (by first | omega | decide) ?_))
    have pk := pkA mo hmo
    have lbS : (W ++ mo).length = W.length + mo.length := List.length_append
    have hpar : parseP (W ++ mo) (H.t.l.length : Nat) = .ok H.sp H.t.l H.f.l H.k.l at_ EN := by
      have := pk.par
      rw [← hhN] at this
      exact this
    have tk : (W ++ mo).take EN = W := pk.tk
    have hsm : smpB ((W ++ mo).take EN) at_ = smpB (op ++ S) at_ := by rw [tk]; exact pk.smp
    have hbk : maskL R (hidB H.sp) at_ k ((W ++ mo).take EN) = op ++ S := by rw [tk, ← hsp]; exact pk.back
    have hf0 : L (W ++ mo) 0 ^^^ (R 0 &&& hidB H.sp) = fstB hN := by rw [← hsp]; exact pk.f0
    have hno0 : noneB H.sp (fstB hN) = 0#8 := by rw [← hsp]; exact pk.none
    have hp1 : 1 ≤ at_ := pk.ha
    have hp2 : at_ + 20 ≤ EN := pk.he
    have hle : EN ≤ (W ++ mo).length := by omega
    have hpl16 : EN - (at_ + k) - 16 = pl.length := by omega
    refine call_same (fn_parse ⟨false, cb, 0, cb, W ++ mo⟩ oB (H.t.l.length : Nat)) [18] rfl ?_ ?_ (fun _ _ => trivial) ?_
    · (repeat first | exact trivial | refine ent1 ?_)
    · refine ⟨rfl, fun j hj => eqC_win0 (fun i hi => rowB i hi) j, ?_⟩
      (repeat first | exact trivial | refine ent1 ?_)
    rintro x hs' hres
    rw [show parseP (Sl.l ⟨false, cb, 0, cb, W ++ mo⟩) (H.t.l.length : Nat) = _ from hpar] at hres
    obtain ⟨T, F, KK, hT, hF, hKK, eT, eF, eK, rfl, rfl⟩ := hres
    have hN63 : N.toNat ≤ 9223372036854775807 := by omega
    (repeat first | (refine And.intro ?_ ?_; first | exact rfl | ((exact fun h => absurd h (by first | decide)); intro yy; clear yy) | (rotate_left; (exact fun h => absurd h (by first | decide)); intro yy; clear yy) | decide | omega) | (with_reducible refine frc_bytesL (by first | omega | decide) ?_) | (with_reducible refine frc_bytesM (by first | omega | decide) ?_))
    refine call_same (fn_unprotect H.sp T F KK ⟨false, cb, 0, cb, W ++ mo⟩ hT hF hKK oB at_ EN ((N.toNat : Int) - 1) (by omega) hp1 hle hp2 cnt1 (by omega) kq kh K K2 iv R E HH hK hE hK2 (by rw [hsm]; exact hR) (fstB hN) hf0 k pk.many (op ++ S) hbk N (by rw [pk.tn, hnl]; exact hgw) op S pl pk.tA pk.tC _ rfl pk.cry) [19, 20, 21, 18, 13, 11, 14, 15, 16] rfl ?_ ?_ (fun _ _ => trivial) ?_
    · (repeat first | exact trivial | refine ent1 ?_)
    · refine eqC_btsM (eqC_btsM (eqC_btsM ?_))
      refine ⟨rfl, fun j hj => eqC_win0 (fun i hi => rowB i hi) j, ?_⟩
      (repeat first | exact trivial | refine ent1 ?_)
    rintro x hs' ⟨-, -, -, hres⟩
    obtain ⟨g', hg', g1, g2, g3, g4, g5, g6, rfl, rfl⟩ := hres hno0 (by omega) pk.tag
    clear hres
    rw [hpl16]
    obtain ⟨cnt2, hcn⟩ : ∃ v, cnt1 + 1 + 1 + ((EN - (at_ + k) - 1) / 16 : Nat) = v := ⟨_, rfl⟩
    have hcn2 : 0 ≤ cnt2 ∧ cnt2 ≤ 800000000 := by omega
    rw [hcn]
    (repeat first | (refine And.intro ?_ ?_; first | exact rfl | ((exact fun h => absurd h (by first | decide)); intro yy; clear yy) | (rotate_left; (exact fun h => absurd h (by first | decide)); intro yy; clear yy) | decide | omega) | (with_reducible refine frc_bytesL (by first | omega | decide) ?_) | (with_reducible refine frc_bytesM (by first | omega | decide) ?_))
    refine sn_bts rfl oP.fit (fun h => by rw [oP.nil h]; rfl) (fun gP hgP => ?_)
    refine ⟨⟨by omega, by simp only [scale]; omega, by show (0 + P.l.length) * 1 ≤ 140737488355328; omega⟩, fun c3 hc3 => ?_⟩
    (repeat first | (refine And.intro ?_ ?_; first | exact rfl | ((exact fun h => absurd h (by first | decide)); intro yy; clear yy) | (rotate_left; (exact fun h => absurd h (by first | decide)); intro yy; clear yy) | decide | omega) | (with_reducible refine frc_bytesL (by first | omega | decide) ?_) | (with_reducible refine frc_bytesM (by first | omega | decide) ?_))
    refine call_same (fn_rsize N ac (by omega)) [] rfl (by (repeat first | exact trivial | refine ent1 ?_)) trivial (fun _ _ => trivial) ?_
    rintro x hs' ⟨rfl, rfl⟩
    rw [hk]
    (repeat first | (refine And.intro ?_ ?_; first | exact rfl | ((exact fun h => absurd h (by first | decide)); intro yy; clear yy) | (rotate_left; (exact fun h => absurd h (by first | decide)); intro yy; clear yy) | decide | omega) | (with_reducible refine frc_bytesL (by first | omega | decide) ?_) | (with_reducible refine frc_bytesM (by first | omega | decide) ?_))
    have rowP : ∀ i, i < P.l.length → appF (nthC []) 0 (scale 0 (0 + 1)) (scale P.l.length (0 + 1)) gP i = .w8 (L P.l i) := fun i hi => app_row (l := []) (m := P.l) rfl rfl (fun i hi => absurd hi (by simp)) hgP i (by simpa using hi)
    refine .inl ⟨Bs × Nat, fun x => ⟨[.any, .any, .a (.c (.w64 (N))), .any, .any, .any, .any, .any, .any, .any, .any, .any, .any, .a (.c (.p 6 0 0)), .a (.c (.p 8 0 0)), .a (.c (.sl 11 0 0 (W ++ mo).length cb)), .any, .a (.c (.p 15 0 0)), .any, .a (.c (.p 21 0 0)), .a (.c (.int .i64 (0))), .a (.c (.sl 22 0 0 x.1.length x.2)), .a (.c (.int .i64 ((k : Int)))), .any, .any, .any, .any, .any, .any, .any, .any, .any, .any, .any, .any, .any, .any, .any, .any, .any, .any, .any, .any, .any, .any, .any, .any, .any, .any, .any, .any, .any, .any, .any, .any, .any, .any, .any, .any, .any, .any, .any, .any, .any, .any, .any, .any, .any, .any, .any, .any, .any, .any, .any, .any, .any, .any, .any, .any, .any, .any, .any, .any, .any, .any, .any, .any, .any, .any, .any, .any, .any, .any, .any, .any, .any, .any, .any, .any, .any, .any, .any, .any, .any, .any, .any, .any, .any, .any, .any, .any, .any, .any, .any, .any, .any, .any, .any, .any, .any, .any, .any, .any, .any, .any, .any, .any, .any, .any, .any, .any, .any, .any, .any, .any, .any, .any, .any, .any, .any, .any, .any, .any, .any, .any, .any, .any, .any, .any, .any, .any, .any, .any, .any, .any, .any, .any, .any, .any, .any, .any, .any, .any, .any, .any, .any], [svB h.t, svB h.f, svB h.k, svB h.n, svB P, svB M, hdC 0 1 2 7 H, svB H.n, kyM 10, tabs 1 0 boxes cnt2, keyD 9 K2, svB ⟨false, cb, 0, cb, W ++ mo⟩, svB T, svB F, svB KK, psI 12 13 14 H.sp T F KK at_ EN, svB g'.t, svB g'.f, svB g'.k, svB g'.n, [.row (EN - (at_ + k)) (bytesF pl.length (L pl))], pkC 16 17 18 19 20 g' N pl.length (EN - (at_ + k)), lsC x.1 x.2]⟩, fun x => plP P.l k (some x), fun x => plM (some x), ⟨(P.l, c3), [0, 1, 2, 3, 4, 5, 9, 8, 13, 11, 16, 18, 19, 20, 21, 22, 23, 24, 25, 26, 27, 28, 30], ⟨⟨rfl, rfl, rfl⟩, ?_⟩, ⟨by omega, 0, by rw [List.replicate_zero, List.append_nil], .inl rfl⟩⟩, fun x hx => ?_⟩
    · (repeat first | exact trivial | refine ent1 ?_)
      refine ⟨Nat.zero_add _, rfl, ?_⟩
      (repeat first | exact trivial | refine ent1 ?_)
      refine eqC_bts (eqC_bts (eqC_bts (eqC_bts (eqC_bts (eqC_bts ?_)))))
      (repeat first | exact trivial | refine ent1 ?_)
      refine eqC_btsM ?_
      (repeat first | exact trivial | refine ent1 ?_)
      refine ⟨fun j hj => eqC_win0 (fun i hi => rowB i hi) j, ?_⟩
      refine eqC_btsM (eqC_btsM (eqC_btsM ?_))
      (repeat first | exact trivial | refine ent1 ?_)
      refine eqC_btsM (eqC_btsM (eqC_btsM (eqC_btsM ?_)))
      (repeat first | exact trivial | refine ent1 ?_)
      exact ⟨fun j hj => eqC_bytes (fun i hi => rowP i hi) j, trivial⟩
    · obtain ⟨qw, cw⟩ := x
      dsimp only
      obtain ⟨hqc, j, hqj, hjk⟩ := hx
      have hqc : qw.length ≤ cw := hqc
      have lq : qw.length = P.l.length + j := by rw [hqj, List.length_append, List.length_replicate]
      by_cases h4 : qw.length + k < 4
      · have d4 : decide ((qw.length : Int) + (k : Int) < 4) = true := decide_eq_true (by omega)
        (repeat first | (refine And.intro ?_ ?_; first | exact rfl | ((exact fun h => absurd h (by first | decide | (rw [d4]; decide))); intro yy; clear yy) | (rotate_left; (exact fun h => absurd h (by first | decide | (rw [d4]; decide))); intro yy; clear yy) | decide | omega) | (with_reducible refine frc_bytesL (by first | omega | decide) ?_) | (with_reducible refine frc_bytesM (by first | omega | decide) ?_))
        refine ⟨⟨hqc, (by show 0 + cw ≤ cw; omega), by show (qw.length + 1) * 1 ≤ 140737488355328; omega⟩, fun c' hc' => ?_⟩
        have lq1 : (qw ++ [0#8]).length = qw.length + 1 := by rw [List.length_append]; rfl
        refine ⟨(qw ++ [0#8], c'), [0, 1, 2, 3, 4, 5, 6, 7, 8, 9, 10, 11, 12, 13, 14, 15, 16, 17, 18, 19, 20, 21, 24], ⟨⟨rfl, rfl, rfl⟩, ?_⟩, ⟨(by show (qw ++ [0#8]).length ≤ c'; omega), j + 1, by rw [List.replicate_succ', ← List.append_assoc, ← hqj], .inr (by show (qw ++ [0#8]).length + k ≤ 4; omega)⟩, by show 4 - (qw ++ [0#8]).length < 4 - qw.length; omega⟩
        (repeat first | exact trivial | refine ent1 ?_)
        refine ⟨lq1.symm, rfl, ?_⟩
        (repeat first | exact trivial | refine ent1 ?_)
        refine eqC_bts (eqC_bts (eqC_bts (eqC_bts (eqC_bts (eqC_bts ?_)))))
        (repeat first | exact trivial | refine ent1 ?_)
        refine eqC_bts ?_
        (repeat first | exact trivial | refine ent1 ?_)
        refine eqC_bts (eqC_bts (eqC_bts ?_))
        (repeat first | exact trivial | refine ent1 ?_)
        refine eqC_bts (eqC_bts (eqC_bts (eqC_bts ?_)))
        (repeat first | exact trivial | refine ent1 ?_)
        refine ⟨fun i hi => eqC_bytes (fun i hi => ?_) i, trivial⟩
        exact app_row (l := qw) (m := [0#8]) rfl rfl (fun i hi => bytesF_lt hi) (fun i hi => one_row rfl i hi) i (by rw [lq1] at hi; exact hi)
      have d4 : decide ((qw.length : Int) + (k : Int) < 4) = false := decide_eq_false (by omega)
      obtain rfl : qw = pl := by
        rw [hqj, ← hpl]
        rw [show j = 4 - k - P.l.length by omega]
      (repeat first | (refine And.intro ?_ ?_; first | exact rfl | ((exact fun h => absurd h (by first | decide | (rw [d4]; decide))); intro yy; clear yy) | (rotate_left; (exact fun h => absurd h (by first | decide | (rw [d4]; decide))); intro yy; clear yy) | decide | omega) | (with_reducible refine frc_bytesL (by first | omega | decide) ?_) | (with_reducible refine frc_bytesM (by first | omega | decide) ?_))
      refine call_same (fn_rcut N k hk14) [] rfl (by (repeat first | exact trivial | refine ent1 ?_)) trivial (fun _ _ => trivial) ?_
      rintro x hs' ⟨rfl, rfl⟩
      have eNN : decide (N ≠ N) = false := decide_eq_false (fun e => e rfl)
      have eU : (!decide (U8 qw = U8 qw)) = false := by rw [decide_eq_true rfl]; rfl
      (repeat first | (refine And.intro ?_ ?_; first | exact rfl | ((exact fun h => absurd h (by first | decide | (rw [eNN]; decide))); intro yy; clear yy) | (rotate_left; (exact fun h => absurd h (by first | decide | (rw [eNN]; decide))); intro yy; clear yy) | decide | omega) | (with_reducible refine frc_bytesL (by first | omega | decide) ?_) | (with_reducible refine frc_bytesM (by first | omega | decide) ?_))
      refine And.intro (by simp only [scale]; omega) ?_
      refine ⟨U8 qw, str_of (M := qw) rfl (fun q hq => ?_), ?_⟩
      · show bytesF _ _ (q + 0) = _
        rw [Nat.add_zero, bytesF_lt hq]
      (repeat first | (refine And.intro ?_ ?_; first | exact rfl | ((exact fun h => absurd h (by first | decide | (rw [eNN]; decide) | (rw [eU]; decide))); intro yy; clear yy) | (rotate_left; (exact fun h => absurd h (by first | decide | (rw [eNN]; decide) | (rw [eU]; decide))); intro yy; clear yy) | decide | omega) | (with_reducible refine frc_bytesL (by first | omega | decide) ?_) | (with_reducible refine frc_bytesM (by first | omega | decide) ?_))
      refine And.intro (by simp only [scale]; omega) ?_
      refine ⟨U8 qw, str_of (M := qw) rfl (fun q hq => ?_), ?_⟩
      · show bytesF _ _ (q + 0) = _
        rw [Nat.add_zero, bytesF_lt hq]
      (repeat first | (refine And.intro ?_ ?_; first | exact rfl | ((exact fun h => absurd h (by first | decide | (rw [eNN]; decide) | (rw [eU]; decide))); intro yy; clear yy) | (rotate_left; (exact fun h => absurd h (by first | decide | (rw [eNN]; decide) | (rw [eU]; decide))); intro yy; clear yy) | decide | omega) | (with_reducible refine frc_bytesL (by first | omega | decide) ?_) | (with_reducible refine frc_bytesM (by first | omega | decide) ?_))
      have lcut : (cutM N k).length = k := tab_len _ _
      have oN : hN.Ok := by rw [← hhN]; exact ⟨Ho.t, Ho.f, Ho.k, own_ok (by rw [lcut]; exact Nat.le_refl _) (by rw [lcut]; omega)⟩
      have hqs : ∀ gx : Hd, gx.sp = H.sp → gx.t.l = T.l → gx.f.l = F.l → gx.k.l = KK.l → gx.turn = (if H.sp = 2#8 then decide (fstB hN &&& 4#8 ≠ 0#8) else false) → gx.n.l = ((op ++ S).drop at_).take k → sameM gx hN = true := by
        intro gx a1 a2 a3 a4 a5 a6
        refine decide_eq_true ⟨a1.trans hsp.symm, a5.trans (by have := pk.turn; rw [hsp] at this; exact this), a2.trans (eT.trans (by rw [← hhN]; rfl)), a3.trans (eF.trans (by rw [← hhN]; rfl)), a4.trans (eK.trans (by rw [← hhN]; rfl)), a6.trans pk.tn⟩
      refine call_same (fn_hsame g' hN hg' oN) [16, 17, 18, 19, 0, 1, 2, 23] rfl ?_ ?_ (fun _ _ => trivial) ?_
      · rw [← hhN]
        (repeat first | exact trivial | refine ent1 ?_)
        done
      · refine eqC_bts (eqC_bts (eqC_bts (eqC_bts ?_)))
        rw [← hhN]
        refine st.ent (sf.ent (sk.ent ?_))
        (repeat first | exact trivial | refine ent1 ?_)
        done
      rintro x hs' ⟨rfl, rfl⟩
      rw [hqs g' g1 g2 g3 g4 g5 g6]
      (repeat first | (refine And.intro ?_ ?_; first | exact rfl | ((exact fun h => absurd h (by first | decide | (rw [eNN]; decide) | (rw [eU]; decide))); intro yy; clear yy) | (rotate_left; (exact fun h => absurd h (by first | decide | (rw [eNN]; decide) | (rw [eU]; decide))); intro yy; clear yy) | decide | omega) | (with_reducible refine frc_bytesL (by first | omega | decide) ?_) | (with_reducible refine frc_bytesM (by first | omega | decide) ?_))
      refine call_same (fn_shown H.sp T F KK ⟨false, cb, 0, cb, W ++ mo⟩ hT hF hKK oB at_ EN hp1 hle hp2 cnt2 (by omega) kh K2 R hK2 (by rw [hsm]; exact hR) (fstB hN) hf0 (op ++ S) (by rw [pk.many]; exact hbk)) [12, 13, 14, 11, 8, 9, 10] rfl (by (repeat first | exact trivial | refine ent1 ?_)) ?_ (fun _ _ => trivial) ?_
      · refine eqC_bts (eqC_bts (eqC_bts ?_))
        (repeat first | exact trivial | refine ent1 ?_)
      rintro x hs' ⟨-, hyes⟩
      obtain ⟨SH, g2', oSH, lSH, og2, b1, b2, b3, b4, b5, b6, rfl, rfl⟩ := hyes hno0
      clear hyes
      rw [pk.many] at b6
      (repeat first | (refine And.intro ?_ ?_; first | exact rfl | ((exact fun h => absurd h (by first | decide)); intro yy; clear yy) | (rotate_left; (exact fun h => absurd h (by first | decide)); intro yy; clear yy) | decide | omega) | (with_reducible refine frc_bytesL (by first | omega | decide) ?_) | (with_reducible refine frc_bytesM (by first | omega | decide) ?_))
      refine ⟨none, [], [(0, true), (1, true), (2, true), (3, true), (4, true), (5, false), (6, true), (7, true), (8, true), (9, true), (10, true), (11, true), (12, true), (13, true), (14, true), (15, true), (16, true), (17, true), (18, true), (19, true), (20, true), (21, true), (22, true), (23, true), (24, true), (25, true), (26, true), (27, true), (28, true), (29, true)], [], by kernel_rfl, ?_⟩
      (repeat first | (refine And.intro ?_ ?_; first | exact rfl | ((exact fun h => absurd h (by first | decide)); intro yy; clear yy) | (rotate_left; (exact fun h => absurd h (by first | decide)); intro yy; clear yy) | decide | omega) | (with_reducible refine frc_bytesL (by first | omega | decide) ?_) | (with_reducible refine frc_bytesM (by first | omega | decide) ?_))
      refine call_same (fn_hsame g2' hN og2 oN) [25, 26, 27, 28, 0, 1, 2, 23] rfl ?_ ?_ (fun _ _ => trivial) ?_
      · rw [← hhN]
        (repeat first | exact trivial | refine ent1 ?_)
      · refine eqC_btsM (eqC_btsM (eqC_btsM (eqC_btsM ?_)))
        rw [← hhN]
        refine st.ent (sf.ent (sk.ent ?_))
        (repeat first | exact trivial | refine ent1 ?_)
      rintro x hs' ⟨rfl, rfl⟩
      rw [hqs g2' b1 b2 b3 b4 b5 b6]
      have lSE : SH.l.length = EN := by rw [lSH, lB, lW]
      have hSz : SH.z = false := oSH.pos (by omega)
      have hSc := oSH.cap
      have eSE : decide ((SH.l.length : Int) = (EN : Int)) = true := decide_eq_true (by omega)
      have eUC : decide (U8 (cutM N k) = U8 (cutM N k)) = true := decide_eq_true rfl
      (repeat first | (refine And.intro ?_ ?_; first | exact rfl | ((exact fun h => absurd h (by first | decide | (rw [eSE]; decide))); intro yy; clear yy) | (rotate_left; (exact fun h => absurd h (by first | decide | (rw [eSE]; decide))); intro yy; clear yy) | decide | omega) | (with_reducible refine frc_bytesL (by first | omega | decide) ?_) | (with_reducible refine frc_bytesM (by first | omega | decide) ?_))
      refine sn_partM oSH hSz hSz at_ rfl ?_ ?_ (fun gs hgs => ?_)
      · have e : ¬ SH.c = (at_ : Int).toNat := by omega
        rw [if_neg e]
        show SH.o + (at_ : Int).toNat * 1 = SH.o + at_
        rw [Int.toNat_natCast, Nat.mul_one]
      · omega
      refine ⟨U8 (cutM N k), str_of (M := cutM N k) (by omega) (fun q hq => ?_), ?_⟩
      · have hq2 : q < k := by omega
        rw [hgs q hq, lSH, ← hnl, ← pk.tn, L_take _ _ _ hq2, L_drop]
      (repeat first | (refine And.intro ?_ ?_; first | exact rfl | ((exact fun h => absurd h (by first | decide | (rw [eSE]; decide))); intro yy; clear yy) | (rotate_left; (exact fun h => absurd h (by first | decide | (rw [eSE]; decide))); intro yy; clear yy) | decide | omega) | (with_reducible refine frc_bytesL (by first | omega | decide) ?_) | (with_reducible refine frc_bytesM (by first | omega | decide) ?_))
      refine sn_btsM rfl (by show 0 + (cutM N k).length ≤ k; omega) (fun h => Bool.noConfusion h) (fun gc hgc => ?_)
      refine ⟨U8 (cutM N k), str_of (M := cutM N k) rfl hgc, ?_⟩
      (repeat first | (refine And.intro ?_ ?_; first | exact rfl | ((exact fun h => absurd h (by first | decide | (rw [eSE]; decide) | (rw [eUC]; decide))); intro yy; clear yy) | (rotate_left; (exact fun h => absurd h (by first | decide | (rw [eSE]; decide) | (rw [eUC]; decide))); intro yy; clear yy) | decide | omega) | (with_reducible refine frc_bytesL (by first | omega | decide) ?_) | (with_reducible refine frc_bytesM (by first | omega | decide) ?_))
      refine ⟨.a (.c (.bool true)), [[], [], [], [], [], []], ⟨[0, 1, 2, 3, 4, 5], ⟨rfl, rfl, rfl⟩, ?_⟩, rfl⟩
      refine ⟨eUC, ?_⟩
      exact eqSegs_nil (eqSegs_nil (eqSegs_nil (eqSegs_nil (eqSegs_nil (eqSegs_nil trivial)))))
end Sx
end Go.Proofs.YtkjdkeolkigibaaGreat
end

section
/-
  Numbers of sixteen bits as arguments. Over any program. No condition of its own.
-/
namespace Go.Proofs.YtkjdkeolkigibaaGreat
set_option linter.unusedVariables false
namespace Sx
open Go.ChangeShapes

theorem wf_w64 {a : Int} (h : (Lit.int .u64 a).wf = true) : a = ((BitVec.ofInt 64 a).toNat : Int) := by
  have := bounds_u64 h
  rw [BitVec.toNat_ofInt]
  omega
theorem wf_i64 {n : Int} (h : (Lit.int .i64 n).wf = true) : -9223372036854775808 ≤ n ∧ n ≤ 9223372036854775807 := by
  simp only [Lit.wf, IntKind.min, IntKind.max, IntKind.signed, IntKind.bits, Bool.and_eq_true] at h
  simp at h; omega
end Sx
end Go.Proofs.YtkjdkeolkigibaaGreat
end

section
/-
  An array of bytes, given by a list. No condition.
-/
namespace Go.Proofs.YtkjdkeolkigibaaGreat
set_option linter.unusedVariables false
namespace Sx
open Sha

theorem is_rowL {r : Rho} {n : Nat} {f : Nat → BitVec 8} : SA.Is r (.agg [.row n fun i => .w8 (L (tab n f) i)]) (.agg ((List.range n).map fun i => Value.int .u8 ((f i).toNat : Int)).toArray) := by
  have e : ((List.range n).map fun i => Value.int .u8 ((f i).toNat : Int)) = (List.range n).map fun i => Value.int .u8 ((L (tab n f) i).toNat : Int) :=
    List.map_congr_left fun i hi => by rw [L_tab (List.mem_range.1 hi)]
  rw [e]
  exact is_row

end Sx
end Go.Proofs.YtkjdkeolkigibaaGreat
end
