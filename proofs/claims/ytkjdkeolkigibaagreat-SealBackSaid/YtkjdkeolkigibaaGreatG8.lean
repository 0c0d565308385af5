/-
  Texts of this claim, part 8: HdB, HbA, AesR4, GcmR, AesP, AesW, AesI, GcmS, GcmV, GcmL, SeM, SeH, SeS, SeT, SeE, SeW, SeU. No condition of its own.
-/
import Derived.Test.YtkjdkeolkigibaaGreatG7
section
/-
  Headers as bytes: the program's Put. No condition.
-/
namespace Go.Proofs.YtkjdkeolkigibaaGreat
set_option linter.unusedVariables false
namespace Sx
open Sha Vi
set_option linter.unusedSimpArgs false

/-- The first byte of a header. -/
def fstB (h : Hd) : BitVec 8 := if h.sp = 2#8 then (if h.turn = true then BitVec.ofNat 8 (63 + h.n.l.length) + 4#8 else BitVec.ofNat 8 (63 + h.n.l.length))
  else (if h.sp = 1#8 then BitVec.ofNat 8 (63 + h.n.l.length) + 128#8 + 32#8 else BitVec.ofNat 8 (63 + h.n.l.length) + 128#8)
/-- A header as bytes, ahead of p. -/
def putH (h : Hd) (p : Nat) : Bs :=
  if h.sp = 2#8 then [fstB h] ++ h.t.l ++ h.n.l
  else [fstB h, 0#8, 0#8, 0#8, 1#8] ++ [BitVec.ofNat 8 h.t.l.length] ++ h.t.l ++ [BitVec.ofNat 8 h.f.l.length] ++ h.f.l ++ (if h.sp = 0#8 then longL h.k.l else []) ++ wideL (BitVec.ofNat 64 (h.n.l.length + p)) 2 ++ h.n.l
/-- Why it can't be put. -/
def putE (h : Hd) (p : Int) : Int := if checkM h ≠ 0 then checkM h else if p < 0 ∨ 1200 < p then 2 else 0
theorem checkM_0 {h : Hd} (e : checkM h = 0) : h.sp.toNat < 3 ∧ h.t.l.length ≤ 20 ∧ h.f.l.length ≤ 20 ∧ h.k.l.length ≤ 64 ∧ 1 ≤ h.n.l.length ∧ h.n.l.length ≤ 4 := by
  unfold checkM at e
  split at e
  · cases e
  · rename_i h1
    split at e
    · cases e
    · split at e
      · cases e
      · rw [BitVec.le_def] at h1
        simp at h1
        omega
theorem lit_ok {l : Bs} (h : l.length ≤ 1000000) : Sl.Ok ⟨false, l.length, 0, l.length, l⟩ := ⟨by simp, Nat.le_refl _, fun h => Bool.noConfusion h, h⟩
theorem eqC_lit' {q : List Nat} {l : Bs} {f : Nat → SC} (h : ∀ j, j < l.length → f j = .w8 (L l j)) (j : Nat) : eqC q (f j) (winF 0 l.length (L l) j) True := eqC_win0 h j
theorem lenN2 {n : Nat} (h : n ≤ 2000) : lenN (BitVec.ofNat 64 n) ≠ 0 ∧ lenN (BitVec.ofNat 64 n) ≤ 2 := by
  have := lenN_spec (BitVec.ofNat 64 n)
  rw [BitVec.toNat_ofNat, Nat.mod_eq_of_lt (by omega)] at this
  omega
set_option maxRecDepth 20000 in
set_option maxHeartbeats 8000000 in
theorem fn_hput (h : Hd) (ho : h.Ok) (q : Int) : FnR Tryz.prog tds 34 4 (hdB h) [.agg (hdC 0 1 2 3 h), .c (.int .i64 q)] (fun _ => True)
    (fun y hs => (putE h q ≠ 0 → y = .tup [.c (.slc none 0 0), .c (.int .i64 (putE h q))] ∧ hs = hdB h) ∧
      (putE h q = 0 → ∃ c, (putH h q.toNat).length ≤ c ∧ y = .tup [.c (.sl 4 0 0 (putH h q.toNat).length c), .c (.int .i64 0)] ∧ hs = hdB h ++ [lsC (putH h q.toNat) c])) := by
  refine fn_of_body tds_ok follows_ Tryz.func34 rfl (t := .a (.agg (hdC 0 1 2 3 h)) :: .a (.c (.int .i64 q)) :: anys (Tryz.f34.ntmps - 2)) rfl (fun w r0 hr _ => ?_)
  obtain ⟨x0, x1, x2, x3, rfl⟩ := len4' hr
  (repeat first | refine And.intro (by omega) ?_ | refine And.intro (by decide) ?_ | (with_reducible refine frc_parts (by first | omega | decide) ?_) | (with_reducible refine frc_bytesL (by first | omega | decide) ?_) | refine And.intro rfl ?_)
  refine call_same (fn_hcheck h) [0, 1, 2, 3] rfl (by (repeat first | exact trivial | refine ent1 ?_)) ?_ (fun _ _ => trivial) ?_
  · refine eqC_bts (eqC_bts (eqC_bts (eqC_bts ?_)))
    (repeat first | exact trivial | refine ent1 ?_)
  rintro x hs ⟨rfl, rfl⟩
  have back : ∀ (e : Int) {h' : List (List Seg)}, putE h q = e → e ≠ 0 → True := fun _ _ _ _ => trivial
  by_cases h0 : checkM h = 0
  rotate_left
  · have e0 : decide (checkM h ≠ 0) = true := decide_eq_true h0
    have hE : putE h q = checkM h := by unfold putE; rw [if_pos h0]
    rw [hE]
    (repeat first | refine And.intro (by omega) ?_ | refine And.intro (by decide) ?_ | refine And.intro rfl ?_ | refine And.intro (fun _ => ?_) (fun h => Bool.noConfusion h) | refine And.intro (fun h => Bool.noConfusion h) (fun _ => ?_) | refine And.intro (fun _ => ?_) (fun h => absurd h (by rw [e0]; decide)) | refine And.intro (fun h => absurd h (by rw [e0]; decide)) (fun _ => ?_))
    refine ⟨.tup [.c (.slc none 0 0), .c (.int .i64 (checkM h))], _, ⟨[0, 1, 2, 3], ⟨rfl, rfl, rfl⟩, ?_⟩, fun _ => ⟨rfl, rfl⟩, fun he => absurd he h0⟩
    (repeat first | exact trivial | refine ent1 ?_)
    refine eqC_bts (eqC_bts (eqC_bts (eqC_bts ?_)))
    (repeat first | exact trivial | refine ent1 ?_)
  have e0 : decide (checkM h ≠ 0) = false := decide_eq_false (by omega)
  (repeat first | refine And.intro (by omega) ?_ | refine And.intro (by decide) ?_ | refine And.intro rfl ?_ | refine And.intro (fun _ => ?_) (fun h => Bool.noConfusion h) | refine And.intro (fun h => Bool.noConfusion h) (fun _ => ?_) | refine And.intro (fun _ => ?_) (fun h => absurd h (by rw [e0]; decide)) | refine And.intro (fun h => absurd h (by rw [e0]; decide)) (fun _ => ?_))
  by_cases h1 : q < 0
  · have e1 : decide (q < 0) = true := decide_eq_true h1
    have hE : putE h q = 2 := by unfold putE; rw [if_neg (by omega), if_pos (.inl h1)]
    rw [hE]
    (repeat first | refine And.intro (by omega) ?_ | refine And.intro (by decide) ?_ | refine And.intro rfl ?_ | refine And.intro (fun _ => ?_) (fun h => Bool.noConfusion h) | refine And.intro (fun h => Bool.noConfusion h) (fun _ => ?_) | refine And.intro (fun _ => ?_) (fun h => absurd h (by rw [e0]; decide)) | refine And.intro (fun h => absurd h (by rw [e0]; decide)) (fun _ => ?_) | refine And.intro (fun _ => ?_) (fun h => absurd h (by rw [e1]; decide)) | refine And.intro (fun h => absurd h (by rw [e1]; decide)) (fun _ => ?_))
    refine ⟨.tup [.c (.slc none 0 0), .c (.int .i64 2)], _, ⟨[0, 1, 2, 3], ⟨rfl, rfl, rfl⟩, ?_⟩, fun _ => ⟨rfl, rfl⟩, fun he => absurd he (by decide)⟩
    (repeat first | exact trivial | refine ent1 ?_)
    refine eqC_bts (eqC_bts (eqC_bts (eqC_bts ?_)))
    (repeat first | exact trivial | refine ent1 ?_)
  have e1 : decide (q < 0) = false := decide_eq_false h1
  (repeat first | refine And.intro (by omega) ?_ | refine And.intro (by decide) ?_ | refine And.intro rfl ?_ | refine And.intro (fun _ => ?_) (fun h => Bool.noConfusion h) | refine And.intro (fun h => Bool.noConfusion h) (fun _ => ?_) | refine And.intro (fun _ => ?_) (fun h => absurd h (by rw [e0]; decide)) | refine And.intro (fun h => absurd h (by rw [e0]; decide)) (fun _ => ?_) | refine And.intro (fun _ => ?_) (fun h => absurd h (by rw [e1]; decide)) | refine And.intro (fun h => absurd h (by rw [e1]; decide)) (fun _ => ?_))
  by_cases h2 : 1200 < q
  · have e2 : decide (1200 < q) = true := decide_eq_true h2
    have hE : putE h q = 2 := by unfold putE; rw [if_neg (by omega), if_pos (.inr h2)]
    rw [hE]
    (repeat first | refine And.intro (by omega) ?_ | refine And.intro (by decide) ?_ | refine And.intro rfl ?_ | refine And.intro (fun _ => ?_) (fun h => Bool.noConfusion h) | refine And.intro (fun h => Bool.noConfusion h) (fun _ => ?_) | refine And.intro (fun _ => ?_) (fun h => absurd h (by rw [e0]; decide)) | refine And.intro (fun h => absurd h (by rw [e0]; decide)) (fun _ => ?_) | refine And.intro (fun _ => ?_) (fun h => absurd h (by rw [e1]; decide)) | refine And.intro (fun h => absurd h (by rw [e1]; decide)) (fun _ => ?_) | refine And.intro (fun _ => ?_) (fun h => absurd h (by rw [e2]; decide)) | refine And.intro (fun h => absurd h (by rw [e2]; decide)) (fun _ => ?_))
    refine ⟨.tup [.c (.slc none 0 0), .c (.int .i64 2)], _, ⟨[0, 1, 2, 3], ⟨rfl, rfl, rfl⟩, ?_⟩, fun _ => ⟨rfl, rfl⟩, fun he => absurd he (by decide)⟩
    (repeat first | exact trivial | refine ent1 ?_)
    refine eqC_bts (eqC_bts (eqC_bts (eqC_bts ?_)))
    (repeat first | exact trivial | refine ent1 ?_)
  have e2 : decide (1200 < q) = false := decide_eq_false h2
  have hE : putE h q = 0 := by unfold putE; rw [if_neg (by omega), if_neg (by omega)]
  obtain ⟨p, rfl⟩ : ∃ p : Nat, q = p := ⟨q.toNat, by omega⟩
  have hp : ((p : Int)).toNat = p := rfl
  rw [hp]
  obtain ⟨g1, g2, g3, g4, g5, g6⟩ := checkM_0 h0
  have hf8 : BitVec.ofInt 8 (64 + (h.n.l.length : Int) - 1) = BitVec.ofNat 8 (63 + h.n.l.length) := by
    rw [show (64 : Int) + (h.n.l.length : Int) - 1 = ((63 + h.n.l.length : Nat) : Int) by omega, BitVec.ofInt_natCast]
  by_cases h5 : h.sp = 2#8
  · have e5 : decide (h.sp = 2#8) = true := decide_eq_true h5
    by_cases h6 : h.turn = true
    · have e6 : h.turn = true := h6
      (repeat first | refine And.intro (by omega) ?_ | refine And.intro (by decide) ?_ | refine And.intro rfl ?_ | refine And.intro (fun _ => ?_) (fun h => Bool.noConfusion h) | refine And.intro (fun h => Bool.noConfusion h) (fun _ => ?_) | refine And.intro (fun _ => ?_) (fun h => absurd h (by rw [e0]; decide)) | refine And.intro (fun h => absurd h (by rw [e0]; decide)) (fun _ => ?_) | refine And.intro (fun _ => ?_) (fun h => absurd h (by rw [e1]; decide)) | refine And.intro (fun h => absurd h (by rw [e1]; decide)) (fun _ => ?_) | refine And.intro (fun _ => ?_) (fun h => absurd h (by rw [e2]; decide)) | refine And.intro (fun h => absurd h (by rw [e2]; decide)) (fun _ => ?_) | refine And.intro (fun _ => ?_) (fun h => absurd h (by rw [e5]; decide)) | refine And.intro (fun h => absurd h (by rw [e5]; decide)) (fun _ => ?_) | refine And.intro (fun _ => ?_) (fun h => absurd h (by rw [e6]; decide)) | refine And.intro (fun h => absurd h (by rw [e6]; decide)) (fun _ => ?_))
      refine call_same (fn_wbytes0 _ (lit_ok (l := [BitVec.ofNat 8 (63 + h.n.l.length) + 4#8]) (by simp)) (by simp)) [6, 5] rfl (by (repeat first | exact trivial | refine ent1 ?_)) ?_ (fun _ _ => trivial) ?_
      · refine ⟨rfl, fun j hj => eqC_lit' (l := [BitVec.ofNat 8 (63 + h.n.l.length) + 4#8]) (fun j hj => ?_) j, ?_⟩
        · exact one_row (by rw [← hf8]) j hj
        (repeat first | exact trivial | refine ent1 ?_)
      rintro x hs' ⟨c1, hc1, rfl, rfl⟩
      obtain ⟨B1, hB1⟩ : ∃ B, [BitVec.ofNat 8 (63 + h.n.l.length) + 4#8] = B := ⟨_, rfl⟩
      have lB1 : B1.length = ([BitVec.ofNat 8 (63 + h.n.l.length) + 4#8]).length := by rw [← hB1]
      try simp only [List.length_cons, List.length_nil, wideL_len] at lB1
      dsimp only at hc1 ⊢
      rw [hB1] at hc1 ⊢
      (repeat first | refine And.intro (by omega) ?_ | refine And.intro (by decide) ?_ | refine And.intro rfl ?_ | refine And.intro (fun _ => ?_) (fun h => Bool.noConfusion h) | refine And.intro (fun h => Bool.noConfusion h) (fun _ => ?_) | refine And.intro (fun _ => ?_) (fun h => absurd h (by rw [e0]; decide)) | refine And.intro (fun h => absurd h (by rw [e0]; decide)) (fun _ => ?_) | refine And.intro (fun _ => ?_) (fun h => absurd h (by rw [e1]; decide)) | refine And.intro (fun h => absurd h (by rw [e1]; decide)) (fun _ => ?_) | refine And.intro (fun _ => ?_) (fun h => absurd h (by rw [e2]; decide)) | refine And.intro (fun h => absurd h (by rw [e2]; decide)) (fun _ => ?_) | refine And.intro (fun _ => ?_) (fun h => absurd h (by rw [e5]; decide)) | refine And.intro (fun h => absurd h (by rw [e5]; decide)) (fun _ => ?_) | refine And.intro (fun _ => ?_) (fun h => absurd h (by rw [e6]; decide)) | refine And.intro (fun h => absurd h (by rw [e6]; decide)) (fun _ => ?_))
      refine call_same (fn_wbytes h.t ho.t B1 c1 (by omega) hc1) [0, 5, 7] rfl (by (repeat first | exact trivial | refine ent1 ?_)) ?_ (fun _ _ => trivial) ?_
      · refine eqC_bts ?_
        (repeat first | exact trivial | refine ent1 ?_)
      rintro x hs' ⟨c2, hc2, rfl, rfl⟩
      obtain ⟨B2, hB2⟩ : ∃ B, B1 ++ h.t.l = B := ⟨_, rfl⟩
      have lB2 : B2.length = B1.length + (h.t.l).length := by rw [← hB2, List.length_append]
      try simp only [List.length_cons, List.length_nil, wideL_len] at lB2
      dsimp only at hc2 ⊢
      rw [hB2] at hc2 ⊢
      (repeat first | refine And.intro (by omega) ?_ | refine And.intro (by decide) ?_ | refine And.intro rfl ?_ | refine And.intro (fun _ => ?_) (fun h => Bool.noConfusion h) | refine And.intro (fun h => Bool.noConfusion h) (fun _ => ?_) | refine And.intro (fun _ => ?_) (fun h => absurd h (by rw [e0]; decide)) | refine And.intro (fun h => absurd h (by rw [e0]; decide)) (fun _ => ?_) | refine And.intro (fun _ => ?_) (fun h => absurd h (by rw [e1]; decide)) | refine And.intro (fun h => absurd h (by rw [e1]; decide)) (fun _ => ?_) | refine And.intro (fun _ => ?_) (fun h => absurd h (by rw [e2]; decide)) | refine And.intro (fun h => absurd h (by rw [e2]; decide)) (fun _ => ?_) | refine And.intro (fun _ => ?_) (fun h => absurd h (by rw [e5]; decide)) | refine And.intro (fun h => absurd h (by rw [e5]; decide)) (fun _ => ?_) | refine And.intro (fun _ => ?_) (fun h => absurd h (by rw [e6]; decide)) | refine And.intro (fun h => absurd h (by rw [e6]; decide)) (fun _ => ?_))
      refine call_same (fn_wbytes h.n ho.n B2 c2 (by omega) hc2) [3, 5, 8] rfl (by (repeat first | exact trivial | refine ent1 ?_)) ?_ (fun _ _ => trivial) ?_
      · refine eqC_bts ?_
        (repeat first | exact trivial | refine ent1 ?_)
      rintro x hs' ⟨c3, hc3, rfl, rfl⟩
      obtain ⟨B3, hB3⟩ : ∃ B, B2 ++ h.n.l = B := ⟨_, rfl⟩
      have lB3 : B3.length = B2.length + (h.n.l).length := by rw [← hB3, List.length_append]
      try simp only [List.length_cons, List.length_nil, wideL_len] at lB3
      dsimp only at hc3 ⊢
      rw [hB3] at hc3 ⊢
      (repeat first | refine And.intro (by omega) ?_ | refine And.intro (by decide) ?_ | refine And.intro rfl ?_ | refine And.intro (fun _ => ?_) (fun h => Bool.noConfusion h) | refine And.intro (fun h => Bool.noConfusion h) (fun _ => ?_) | refine And.intro (fun _ => ?_) (fun h => absurd h (by rw [e0]; decide)) | refine And.intro (fun h => absurd h (by rw [e0]; decide)) (fun _ => ?_) | refine And.intro (fun _ => ?_) (fun h => absurd h (by rw [e1]; decide)) | refine And.intro (fun h => absurd h (by rw [e1]; decide)) (fun _ => ?_) | refine And.intro (fun _ => ?_) (fun h => absurd h (by rw [e2]; decide)) | refine And.intro (fun h => absurd h (by rw [e2]; decide)) (fun _ => ?_) | refine And.intro (fun _ => ?_) (fun h => absurd h (by rw [e5]; decide)) | refine And.intro (fun h => absurd h (by rw [e5]; decide)) (fun _ => ?_) | refine And.intro (fun _ => ?_) (fun h => absurd h (by rw [e6]; decide)) | refine And.intro (fun h => absurd h (by rw [e6]; decide)) (fun _ => ?_))
      refine call_same (fn_wdone B3 c3 (by omega) hc3 (by omega)) [5, 9] rfl (by (repeat first | exact trivial | refine ent1 ?_)) ?_ (fun _ _ => trivial) ?_
      · (repeat first | exact trivial | refine ent1 ?_)
      rintro x hs' ⟨cz, hcz, rfl, rfl⟩
      have hP : B3 = putH h p := by rw [← hB3, ← hB2, ← hB1]; unfold putH fstB; simp [h5, h6]
      rw [hP] at hcz ⊢
      refine ⟨.tup [.c (.sl 4 0 0 (putH h p).length cz), .c (.int .i64 0)], _, ⟨[0, 1, 2, 3, 10], ⟨rfl, rfl, rfl⟩, ?_⟩, fun he => absurd hE he, fun _ => ⟨cz, hcz, rfl, rfl⟩⟩
      (repeat first | exact trivial | refine ent1 ?_)
      refine eqC_bts (eqC_bts (eqC_bts (eqC_bts ?_)))
      (repeat first | exact trivial | refine ent1 ?_)
    · have e6 : h.turn = false := by simpa using h6
      (repeat first | refine And.intro (by omega) ?_ | refine And.intro (by decide) ?_ | refine And.intro rfl ?_ | refine And.intro (fun _ => ?_) (fun h => Bool.noConfusion h) | refine And.intro (fun h => Bool.noConfusion h) (fun _ => ?_) | refine And.intro (fun _ => ?_) (fun h => absurd h (by rw [e0]; decide)) | refine And.intro (fun h => absurd h (by rw [e0]; decide)) (fun _ => ?_) | refine And.intro (fun _ => ?_) (fun h => absurd h (by rw [e1]; decide)) | refine And.intro (fun h => absurd h (by rw [e1]; decide)) (fun _ => ?_) | refine And.intro (fun _ => ?_) (fun h => absurd h (by rw [e2]; decide)) | refine And.intro (fun h => absurd h (by rw [e2]; decide)) (fun _ => ?_) | refine And.intro (fun _ => ?_) (fun h => absurd h (by rw [e5]; decide)) | refine And.intro (fun h => absurd h (by rw [e5]; decide)) (fun _ => ?_) | refine And.intro (fun _ => ?_) (fun h => absurd h (by rw [e6]; decide)) | refine And.intro (fun h => absurd h (by rw [e6]; decide)) (fun _ => ?_))
      refine call_same (fn_wbytes0 _ (lit_ok (l := [BitVec.ofNat 8 (63 + h.n.l.length)]) (by simp)) (by simp)) [6, 5] rfl (by (repeat first | exact trivial | refine ent1 ?_)) ?_ (fun _ _ => trivial) ?_
      · refine ⟨rfl, fun j hj => eqC_lit' (l := [BitVec.ofNat 8 (63 + h.n.l.length)]) (fun j hj => ?_) j, ?_⟩
        · exact one_row (by rw [← hf8]) j hj
        (repeat first | exact trivial | refine ent1 ?_)
      rintro x hs' ⟨c4, hc4, rfl, rfl⟩
      obtain ⟨B4, hB4⟩ : ∃ B, [BitVec.ofNat 8 (63 + h.n.l.length)] = B := ⟨_, rfl⟩
      have lB4 : B4.length = ([BitVec.ofNat 8 (63 + h.n.l.length)]).length := by rw [← hB4]
      try simp only [List.length_cons, List.length_nil, wideL_len] at lB4
      dsimp only at hc4 ⊢
      rw [hB4] at hc4 ⊢
      (repeat first | refine And.intro (by omega) ?_ | refine And.intro (by decide) ?_ | refine And.intro rfl ?_ | refine And.intro (fun _ => ?_) (fun h => Bool.noConfusion h) | refine And.intro (fun h => Bool.noConfusion h) (fun _ => ?_) | refine And.intro (fun _ => ?_) (fun h => absurd h (by rw [e0]; decide)) | refine And.intro (fun h => absurd h (by rw [e0]; decide)) (fun _ => ?_) | refine And.intro (fun _ => ?_) (fun h => absurd h (by rw [e1]; decide)) | refine And.intro (fun h => absurd h (by rw [e1]; decide)) (fun _ => ?_) | refine And.intro (fun _ => ?_) (fun h => absurd h (by rw [e2]; decide)) | refine And.intro (fun h => absurd h (by rw [e2]; decide)) (fun _ => ?_) | refine And.intro (fun _ => ?_) (fun h => absurd h (by rw [e5]; decide)) | refine And.intro (fun h => absurd h (by rw [e5]; decide)) (fun _ => ?_) | refine And.intro (fun _ => ?_) (fun h => absurd h (by rw [e6]; decide)) | refine And.intro (fun h => absurd h (by rw [e6]; decide)) (fun _ => ?_))
      refine call_same (fn_wbytes h.t ho.t B4 c4 (by omega) hc4) [0, 5, 7] rfl (by (repeat first | exact trivial | refine ent1 ?_)) ?_ (fun _ _ => trivial) ?_
      · refine eqC_bts ?_
        (repeat first | exact trivial | refine ent1 ?_)
      rintro x hs' ⟨c5, hc5, rfl, rfl⟩
      obtain ⟨B5, hB5⟩ : ∃ B, B4 ++ h.t.l = B := ⟨_, rfl⟩
      have lB5 : B5.length = B4.length + (h.t.l).length := by rw [← hB5, List.length_append]
      try simp only [List.length_cons, List.length_nil, wideL_len] at lB5
      dsimp only at hc5 ⊢
      rw [hB5] at hc5 ⊢
      (repeat first | refine And.intro (by omega) ?_ | refine And.intro (by decide) ?_ | refine And.intro rfl ?_ | refine And.intro (fun _ => ?_) (fun h => Bool.noConfusion h) | refine And.intro (fun h => Bool.noConfusion h) (fun _ => ?_) | refine And.intro (fun _ => ?_) (fun h => absurd h (by rw [e0]; decide)) | refine And.intro (fun h => absurd h (by rw [e0]; decide)) (fun _ => ?_) | refine And.intro (fun _ => ?_) (fun h => absurd h (by rw [e1]; decide)) | refine And.intro (fun h => absurd h (by rw [e1]; decide)) (fun _ => ?_) | refine And.intro (fun _ => ?_) (fun h => absurd h (by rw [e2]; decide)) | refine And.intro (fun h => absurd h (by rw [e2]; decide)) (fun _ => ?_) | refine And.intro (fun _ => ?_) (fun h => absurd h (by rw [e5]; decide)) | refine And.intro (fun h => absurd h (by rw [e5]; decide)) (fun _ => ?_) | refine And.intro (fun _ => ?_) (fun h => absurd h (by rw [e6]; decide)) | refine And.intro (fun h => absurd h (by rw [e6]; decide)) (fun _ => ?_))
      refine call_same (fn_wbytes h.n ho.n B5 c5 (by omega) hc5) [3, 5, 8] rfl (by (repeat first | exact trivial | refine ent1 ?_)) ?_ (fun _ _ => trivial) ?_
      · refine eqC_bts ?_
        (repeat first | exact trivial | refine ent1 ?_)
      rintro x hs' ⟨c6, hc6, rfl, rfl⟩
      obtain ⟨B6, hB6⟩ : ∃ B, B5 ++ h.n.l = B := ⟨_, rfl⟩
      have lB6 : B6.length = B5.length + (h.n.l).length := by rw [← hB6, List.length_append]
      try simp only [List.length_cons, List.length_nil, wideL_len] at lB6
      dsimp only at hc6 ⊢
      rw [hB6] at hc6 ⊢
      (repeat first | refine And.intro (by omega) ?_ | refine And.intro (by decide) ?_ | refine And.intro rfl ?_ | refine And.intro (fun _ => ?_) (fun h => Bool.noConfusion h) | refine And.intro (fun h => Bool.noConfusion h) (fun _ => ?_) | refine And.intro (fun _ => ?_) (fun h => absurd h (by rw [e0]; decide)) | refine And.intro (fun h => absurd h (by rw [e0]; decide)) (fun _ => ?_) | refine And.intro (fun _ => ?_) (fun h => absurd h (by rw [e1]; decide)) | refine And.intro (fun h => absurd h (by rw [e1]; decide)) (fun _ => ?_) | refine And.intro (fun _ => ?_) (fun h => absurd h (by rw [e2]; decide)) | refine And.intro (fun h => absurd h (by rw [e2]; decide)) (fun _ => ?_) | refine And.intro (fun _ => ?_) (fun h => absurd h (by rw [e5]; decide)) | refine And.intro (fun h => absurd h (by rw [e5]; decide)) (fun _ => ?_) | refine And.intro (fun _ => ?_) (fun h => absurd h (by rw [e6]; decide)) | refine And.intro (fun h => absurd h (by rw [e6]; decide)) (fun _ => ?_))
      refine call_same (fn_wdone B6 c6 (by omega) hc6 (by omega)) [5, 9] rfl (by (repeat first | exact trivial | refine ent1 ?_)) ?_ (fun _ _ => trivial) ?_
      · (repeat first | exact trivial | refine ent1 ?_)
      rintro x hs' ⟨cz, hcz, rfl, rfl⟩
      have hP : B6 = putH h p := by rw [← hB6, ← hB5, ← hB4]; unfold putH fstB; simp [h5, h6]
      rw [hP] at hcz ⊢
      refine ⟨.tup [.c (.sl 4 0 0 (putH h p).length cz), .c (.int .i64 0)], _, ⟨[0, 1, 2, 3, 10], ⟨rfl, rfl, rfl⟩, ?_⟩, fun he => absurd hE he, fun _ => ⟨cz, hcz, rfl, rfl⟩⟩
      (repeat first | exact trivial | refine ent1 ?_)
      refine eqC_bts (eqC_bts (eqC_bts (eqC_bts ?_)))
      (repeat first | exact trivial | refine ent1 ?_)
  have e5 : decide (h.sp = 2#8) = false := decide_eq_false h5
  by_cases h6 : h.sp = 1#8
  · have e6 : decide (h.sp = 1#8) = true := decide_eq_true h6
    have e7 : decide (h.sp = 0#8) = false := decide_eq_false (by rw [h6]; decide)
    (repeat first | refine And.intro (by omega) ?_ | refine And.intro (by decide) ?_ | refine And.intro rfl ?_ | refine And.intro (fun _ => ?_) (fun h => Bool.noConfusion h) | refine And.intro (fun h => Bool.noConfusion h) (fun _ => ?_) | refine And.intro (fun _ => ?_) (fun h => absurd h (by rw [e0]; decide)) | refine And.intro (fun h => absurd h (by rw [e0]; decide)) (fun _ => ?_) | refine And.intro (fun _ => ?_) (fun h => absurd h (by rw [e1]; decide)) | refine And.intro (fun h => absurd h (by rw [e1]; decide)) (fun _ => ?_) | refine And.intro (fun _ => ?_) (fun h => absurd h (by rw [e2]; decide)) | refine And.intro (fun h => absurd h (by rw [e2]; decide)) (fun _ => ?_) | refine And.intro (fun _ => ?_) (fun h => absurd h (by rw [e5]; decide)) | refine And.intro (fun h => absurd h (by rw [e5]; decide)) (fun _ => ?_) | refine And.intro (fun _ => ?_) (fun h => absurd h (by rw [e6]; decide)) | refine And.intro (fun h => absurd h (by rw [e6]; decide)) (fun _ => ?_) | refine And.intro (fun _ => ?_) (fun h => absurd h (by rw [e7]; decide)) | refine And.intro (fun h => absurd h (by rw [e7]; decide)) (fun _ => ?_))
    refine call_same (fn_wbytes0 _ (lit_ok (l := [BitVec.ofNat 8 (63 + h.n.l.length) + 128#8 + 32#8, 0#8, 0#8, 0#8, 1#8]) (by simp)) (by simp)) [6, 5] rfl (by (repeat first | exact trivial | refine ent1 ?_)) ?_ (fun _ _ => trivial) ?_
    · refine ⟨rfl, fun j hj => eqC_lit' (l := [BitVec.ofNat 8 (63 + h.n.l.length) + 128#8 + 32#8, 0#8, 0#8, 0#8, 1#8]) (fun j hj => ?_) j, ?_⟩
      · rw [← hf8]; exact nthC_w8 [_, 0#8, 0#8, 0#8, 1#8] j hj
      (repeat first | exact trivial | refine ent1 ?_)
    rintro x hs' ⟨c7, hc7, rfl, rfl⟩
    obtain ⟨B7, hB7⟩ : ∃ B, [BitVec.ofNat 8 (63 + h.n.l.length) + 128#8 + 32#8, 0#8, 0#8, 0#8, 1#8] = B := ⟨_, rfl⟩
    have lB7 : B7.length = ([BitVec.ofNat 8 (63 + h.n.l.length) + 128#8 + 32#8, 0#8, 0#8, 0#8, 1#8]).length := by rw [← hB7]
    try simp only [List.length_cons, List.length_nil, wideL_len] at lB7
    dsimp only at hc7 ⊢
    rw [hB7] at hc7 ⊢
    (repeat first | refine And.intro (by omega) ?_ | refine And.intro (by decide) ?_ | refine And.intro rfl ?_ | refine And.intro (fun _ => ?_) (fun h => Bool.noConfusion h) | refine And.intro (fun h => Bool.noConfusion h) (fun _ => ?_) | refine And.intro (fun _ => ?_) (fun h => absurd h (by rw [e0]; decide)) | refine And.intro (fun h => absurd h (by rw [e0]; decide)) (fun _ => ?_) | refine And.intro (fun _ => ?_) (fun h => absurd h (by rw [e1]; decide)) | refine And.intro (fun h => absurd h (by rw [e1]; decide)) (fun _ => ?_) | refine And.intro (fun _ => ?_) (fun h => absurd h (by rw [e2]; decide)) | refine And.intro (fun h => absurd h (by rw [e2]; decide)) (fun _ => ?_) | refine And.intro (fun _ => ?_) (fun h => absurd h (by rw [e5]; decide)) | refine And.intro (fun h => absurd h (by rw [e5]; decide)) (fun _ => ?_) | refine And.intro (fun _ => ?_) (fun h => absurd h (by rw [e6]; decide)) | refine And.intro (fun h => absurd h (by rw [e6]; decide)) (fun _ => ?_) | refine And.intro (fun _ => ?_) (fun h => absurd h (by rw [e7]; decide)) | refine And.intro (fun h => absurd h (by rw [e7]; decide)) (fun _ => ?_))
    refine call_same (fn_wbytes _ (lit_ok (l := [BitVec.ofNat 8 h.t.l.length]) (by simp)) B7 c7 (by omega) hc7) [8, 5, 7] rfl (by (repeat first | exact trivial | refine ent1 ?_)) ?_ (fun _ _ => trivial) ?_
    · refine ⟨rfl, fun j hj => eqC_lit' (l := [BitVec.ofNat 8 h.t.l.length]) (fun j hj => ?_) j, ?_⟩
      · exact one_row (BitVec.ofInt_natCast 8 _) j hj
      (repeat first | exact trivial | refine ent1 ?_)
    rintro x hs' ⟨c8, hc8, rfl, rfl⟩
    obtain ⟨B8, hB8⟩ : ∃ B, B7 ++ [BitVec.ofNat 8 h.t.l.length] = B := ⟨_, rfl⟩
    have lB8 : B8.length = B7.length + ([BitVec.ofNat 8 h.t.l.length]).length := by rw [← hB8, List.length_append]
    try simp only [List.length_cons, List.length_nil, wideL_len] at lB8
    dsimp only at hc8 ⊢
    rw [hB8] at hc8 ⊢
    (repeat first | refine And.intro (by omega) ?_ | refine And.intro (by decide) ?_ | refine And.intro rfl ?_ | refine And.intro (fun _ => ?_) (fun h => Bool.noConfusion h) | refine And.intro (fun h => Bool.noConfusion h) (fun _ => ?_) | refine And.intro (fun _ => ?_) (fun h => absurd h (by rw [e0]; decide)) | refine And.intro (fun h => absurd h (by rw [e0]; decide)) (fun _ => ?_) | refine And.intro (fun _ => ?_) (fun h => absurd h (by rw [e1]; decide)) | refine And.intro (fun h => absurd h (by rw [e1]; decide)) (fun _ => ?_) | refine And.intro (fun _ => ?_) (fun h => absurd h (by rw [e2]; decide)) | refine And.intro (fun h => absurd h (by rw [e2]; decide)) (fun _ => ?_) | refine And.intro (fun _ => ?_) (fun h => absurd h (by rw [e5]; decide)) | refine And.intro (fun h => absurd h (by rw [e5]; decide)) (fun _ => ?_) | refine And.intro (fun _ => ?_) (fun h => absurd h (by rw [e6]; decide)) | refine And.intro (fun h => absurd h (by rw [e6]; decide)) (fun _ => ?_) | refine And.intro (fun _ => ?_) (fun h => absurd h (by rw [e7]; decide)) | refine And.intro (fun h => absurd h (by rw [e7]; decide)) (fun _ => ?_))
    refine call_same (fn_wbytes h.t ho.t B8 c8 (by omega) hc8) [0, 5, 9] rfl (by (repeat first | exact trivial | refine ent1 ?_)) ?_ (fun _ _ => trivial) ?_
    · refine eqC_bts ?_
      (repeat first | exact trivial | refine ent1 ?_)
    rintro x hs' ⟨c9, hc9, rfl, rfl⟩
    obtain ⟨B9, hB9⟩ : ∃ B, B8 ++ h.t.l = B := ⟨_, rfl⟩
    have lB9 : B9.length = B8.length + (h.t.l).length := by rw [← hB9, List.length_append]
    try simp only [List.length_cons, List.length_nil, wideL_len] at lB9
    dsimp only at hc9 ⊢
    rw [hB9] at hc9 ⊢
    (repeat first | refine And.intro (by omega) ?_ | refine And.intro (by decide) ?_ | refine And.intro rfl ?_ | refine And.intro (fun _ => ?_) (fun h => Bool.noConfusion h) | refine And.intro (fun h => Bool.noConfusion h) (fun _ => ?_) | refine And.intro (fun _ => ?_) (fun h => absurd h (by rw [e0]; decide)) | refine And.intro (fun h => absurd h (by rw [e0]; decide)) (fun _ => ?_) | refine And.intro (fun _ => ?_) (fun h => absurd h (by rw [e1]; decide)) | refine And.intro (fun h => absurd h (by rw [e1]; decide)) (fun _ => ?_) | refine And.intro (fun _ => ?_) (fun h => absurd h (by rw [e2]; decide)) | refine And.intro (fun h => absurd h (by rw [e2]; decide)) (fun _ => ?_) | refine And.intro (fun _ => ?_) (fun h => absurd h (by rw [e5]; decide)) | refine And.intro (fun h => absurd h (by rw [e5]; decide)) (fun _ => ?_) | refine And.intro (fun _ => ?_) (fun h => absurd h (by rw [e6]; decide)) | refine And.intro (fun h => absurd h (by rw [e6]; decide)) (fun _ => ?_) | refine And.intro (fun _ => ?_) (fun h => absurd h (by rw [e7]; decide)) | refine And.intro (fun h => absurd h (by rw [e7]; decide)) (fun _ => ?_))
    refine call_same (fn_wbytes _ (lit_ok (l := [BitVec.ofNat 8 h.f.l.length]) (by simp)) B9 c9 (by omega) hc9) [11, 5, 10] rfl (by (repeat first | exact trivial | refine ent1 ?_)) ?_ (fun _ _ => trivial) ?_
    · refine ⟨rfl, fun j hj => eqC_lit' (l := [BitVec.ofNat 8 h.f.l.length]) (fun j hj => ?_) j, ?_⟩
      · exact one_row (BitVec.ofInt_natCast 8 _) j hj
      (repeat first | exact trivial | refine ent1 ?_)
    rintro x hs' ⟨c10, hc10, rfl, rfl⟩
    obtain ⟨B10, hB10⟩ : ∃ B, B9 ++ [BitVec.ofNat 8 h.f.l.length] = B := ⟨_, rfl⟩
    have lB10 : B10.length = B9.length + ([BitVec.ofNat 8 h.f.l.length]).length := by rw [← hB10, List.length_append]
    try simp only [List.length_cons, List.length_nil, wideL_len] at lB10
    dsimp only at hc10 ⊢
    rw [hB10] at hc10 ⊢
    (repeat first | refine And.intro (by omega) ?_ | refine And.intro (by decide) ?_ | refine And.intro rfl ?_ | refine And.intro (fun _ => ?_) (fun h => Bool.noConfusion h) | refine And.intro (fun h => Bool.noConfusion h) (fun _ => ?_) | refine And.intro (fun _ => ?_) (fun h => absurd h (by rw [e0]; decide)) | refine And.intro (fun h => absurd h (by rw [e0]; decide)) (fun _ => ?_) | refine And.intro (fun _ => ?_) (fun h => absurd h (by rw [e1]; decide)) | refine And.intro (fun h => absurd h (by rw [e1]; decide)) (fun _ => ?_) | refine And.intro (fun _ => ?_) (fun h => absurd h (by rw [e2]; decide)) | refine And.intro (fun h => absurd h (by rw [e2]; decide)) (fun _ => ?_) | refine And.intro (fun _ => ?_) (fun h => absurd h (by rw [e5]; decide)) | refine And.intro (fun h => absurd h (by rw [e5]; decide)) (fun _ => ?_) | refine And.intro (fun _ => ?_) (fun h => absurd h (by rw [e6]; decide)) | refine And.intro (fun h => absurd h (by rw [e6]; decide)) (fun _ => ?_) | refine And.intro (fun _ => ?_) (fun h => absurd h (by rw [e7]; decide)) | refine And.intro (fun h => absurd h (by rw [e7]; decide)) (fun _ => ?_))
    refine call_same (fn_wbytes h.f ho.f B10 c10 (by omega) hc10) [1, 5, 12] rfl (by (repeat first | exact trivial | refine ent1 ?_)) ?_ (fun _ _ => trivial) ?_
    · refine eqC_bts ?_
      (repeat first | exact trivial | refine ent1 ?_)
    rintro x hs' ⟨c11, hc11, rfl, rfl⟩
    obtain ⟨B11, hB11⟩ : ∃ B, B10 ++ h.f.l = B := ⟨_, rfl⟩
    have lB11 : B11.length = B10.length + (h.f.l).length := by rw [← hB11, List.length_append]
    try simp only [List.length_cons, List.length_nil, wideL_len] at lB11
    dsimp only at hc11 ⊢
    rw [hB11] at hc11 ⊢
    (repeat first | refine And.intro (by omega) ?_ | refine And.intro (by decide) ?_ | refine And.intro rfl ?_ | refine And.intro (fun _ => ?_) (fun h => Bool.noConfusion h) | refine And.intro (fun h => Bool.noConfusion h) (fun _ => ?_) | refine And.intro (fun _ => ?_) (fun h => absurd h (by rw [e0]; decide)) | refine And.intro (fun h => absurd h (by rw [e0]; decide)) (fun _ => ?_) | refine And.intro (fun _ => ?_) (fun h => absurd h (by rw [e1]; decide)) | refine And.intro (fun h => absurd h (by rw [e1]; decide)) (fun _ => ?_) | refine And.intro (fun _ => ?_) (fun h => absurd h (by rw [e2]; decide)) | refine And.intro (fun h => absurd h (by rw [e2]; decide)) (fun _ => ?_) | refine And.intro (fun _ => ?_) (fun h => absurd h (by rw [e5]; decide)) | refine And.intro (fun h => absurd h (by rw [e5]; decide)) (fun _ => ?_) | refine And.intro (fun _ => ?_) (fun h => absurd h (by rw [e6]; decide)) | refine And.intro (fun h => absurd h (by rw [e6]; decide)) (fun _ => ?_) | refine And.intro (fun _ => ?_) (fun h => absurd h (by rw [e7]; decide)) | refine And.intro (fun h => absurd h (by rw [e7]; decide)) (fun _ => ?_))
    have hw : BitVec.ofInt 64 ((h.n.l.length : Int) + (p : Int)) = BitVec.ofNat 64 (h.n.l.length + p) := by
      rw [show (h.n.l.length : Int) + (p : Int) = ((h.n.l.length + p : Nat) : Int) by omega, BitVec.ofInt_natCast]
    have hw2 := lenN2 (n := h.n.l.length + p) (by omega)
    rw [hw]
    refine call_same (fn_vwide (BitVec.ofNat 64 (h.n.l.length + p)) 2 (.inr (.inl rfl)) hw2.1 hw2.2) [] rfl (by (repeat first | exact trivial | refine ent1 ?_)) trivial (fun _ _ => trivial) ?_
    rintro x hs' ⟨cw, hcw, rfl, rfl⟩
    (repeat first | refine And.intro (by omega) ?_ | refine And.intro (by decide) ?_ | refine And.intro rfl ?_ | refine And.intro (fun _ => ?_) (fun h => Bool.noConfusion h) | refine And.intro (fun h => Bool.noConfusion h) (fun _ => ?_) | refine And.intro (fun _ => ?_) (fun h => absurd h (by rw [e0]; decide)) | refine And.intro (fun h => absurd h (by rw [e0]; decide)) (fun _ => ?_) | refine And.intro (fun _ => ?_) (fun h => absurd h (by rw [e1]; decide)) | refine And.intro (fun h => absurd h (by rw [e1]; decide)) (fun _ => ?_) | refine And.intro (fun _ => ?_) (fun h => absurd h (by rw [e2]; decide)) | refine And.intro (fun h => absurd h (by rw [e2]; decide)) (fun _ => ?_) | refine And.intro (fun _ => ?_) (fun h => absurd h (by rw [e5]; decide)) | refine And.intro (fun h => absurd h (by rw [e5]; decide)) (fun _ => ?_) | refine And.intro (fun _ => ?_) (fun h => absurd h (by rw [e6]; decide)) | refine And.intro (fun h => absurd h (by rw [e6]; decide)) (fun _ => ?_) | refine And.intro (fun _ => ?_) (fun h => absurd h (by rw [e7]; decide)) | refine And.intro (fun h => absurd h (by rw [e7]; decide)) (fun _ => ?_))
    refine call_same (fn_wbytes _ (own_ok (l := wideL (BitVec.ofNat 64 (h.n.l.length + p)) 2) (c := cw) (by simpa using hcw) (by simp)) B11 c11 (by omega) hc11) [14, 5, 13] rfl (by (repeat first | exact trivial | refine ent1 ?_)) ?_ (fun _ _ => trivial) ?_
    · refine ⟨rfl, fun j hj => eqC_winBM (Nat.le_refl _), ?_⟩
      (repeat first | exact trivial | refine ent1 ?_)
    rintro x hs' ⟨c12, hc12, rfl, rfl⟩
    obtain ⟨B12, hB12⟩ : ∃ B, B11 ++ wideL (BitVec.ofNat 64 (h.n.l.length + p)) 2 = B := ⟨_, rfl⟩
    have lB12 : B12.length = B11.length + (wideL (BitVec.ofNat 64 (h.n.l.length + p)) 2).length := by rw [← hB12, List.length_append]
    try simp only [List.length_cons, List.length_nil, wideL_len] at lB12
    dsimp only at hc12 ⊢
    rw [hB12] at hc12 ⊢
    (repeat first | refine And.intro (by omega) ?_ | refine And.intro (by decide) ?_ | refine And.intro rfl ?_ | refine And.intro (fun _ => ?_) (fun h => Bool.noConfusion h) | refine And.intro (fun h => Bool.noConfusion h) (fun _ => ?_) | refine And.intro (fun _ => ?_) (fun h => absurd h (by rw [e0]; decide)) | refine And.intro (fun h => absurd h (by rw [e0]; decide)) (fun _ => ?_) | refine And.intro (fun _ => ?_) (fun h => absurd h (by rw [e1]; decide)) | refine And.intro (fun h => absurd h (by rw [e1]; decide)) (fun _ => ?_) | refine And.intro (fun _ => ?_) (fun h => absurd h (by rw [e2]; decide)) | refine And.intro (fun h => absurd h (by rw [e2]; decide)) (fun _ => ?_) | refine And.intro (fun _ => ?_) (fun h => absurd h (by rw [e5]; decide)) | refine And.intro (fun h => absurd h (by rw [e5]; decide)) (fun _ => ?_) | refine And.intro (fun _ => ?_) (fun h => absurd h (by rw [e6]; decide)) | refine And.intro (fun h => absurd h (by rw [e6]; decide)) (fun _ => ?_) | refine And.intro (fun _ => ?_) (fun h => absurd h (by rw [e7]; decide)) | refine And.intro (fun h => absurd h (by rw [e7]; decide)) (fun _ => ?_))
    refine call_same (fn_wbytes h.n ho.n B12 c12 (by omega) hc12) [3, 5, 15] rfl (by (repeat first | exact trivial | refine ent1 ?_)) ?_ (fun _ _ => trivial) ?_
    · refine eqC_bts ?_
      (repeat first | exact trivial | refine ent1 ?_)
    rintro x hs' ⟨c13, hc13, rfl, rfl⟩
    obtain ⟨B13, hB13⟩ : ∃ B, B12 ++ h.n.l = B := ⟨_, rfl⟩
    have lB13 : B13.length = B12.length + (h.n.l).length := by rw [← hB13, List.length_append]
    try simp only [List.length_cons, List.length_nil, wideL_len] at lB13
    dsimp only at hc13 ⊢
    rw [hB13] at hc13 ⊢
    (repeat first | refine And.intro (by omega) ?_ | refine And.intro (by decide) ?_ | refine And.intro rfl ?_ | refine And.intro (fun _ => ?_) (fun h => Bool.noConfusion h) | refine And.intro (fun h => Bool.noConfusion h) (fun _ => ?_) | refine And.intro (fun _ => ?_) (fun h => absurd h (by rw [e0]; decide)) | refine And.intro (fun h => absurd h (by rw [e0]; decide)) (fun _ => ?_) | refine And.intro (fun _ => ?_) (fun h => absurd h (by rw [e1]; decide)) | refine And.intro (fun h => absurd h (by rw [e1]; decide)) (fun _ => ?_) | refine And.intro (fun _ => ?_) (fun h => absurd h (by rw [e2]; decide)) | refine And.intro (fun h => absurd h (by rw [e2]; decide)) (fun _ => ?_) | refine And.intro (fun _ => ?_) (fun h => absurd h (by rw [e5]; decide)) | refine And.intro (fun h => absurd h (by rw [e5]; decide)) (fun _ => ?_) | refine And.intro (fun _ => ?_) (fun h => absurd h (by rw [e6]; decide)) | refine And.intro (fun h => absurd h (by rw [e6]; decide)) (fun _ => ?_) | refine And.intro (fun _ => ?_) (fun h => absurd h (by rw [e7]; decide)) | refine And.intro (fun h => absurd h (by rw [e7]; decide)) (fun _ => ?_))
    refine call_same (fn_wdone B13 c13 (by omega) hc13 (by omega)) [5, 16] rfl (by (repeat first | exact trivial | refine ent1 ?_)) ?_ (fun _ _ => trivial) ?_
    · (repeat first | exact trivial | refine ent1 ?_)
    rintro x hs' ⟨cz, hcz, rfl, rfl⟩
    have hP : B13 = putH h p := by rw [← hB13, ← hB12, ← hB11, ← hB10, ← hB9, ← hB8, ← hB7]; unfold putH fstB; simp [h5, h6]
    rw [hP] at hcz ⊢
    refine ⟨.tup [.c (.sl 4 0 0 (putH h p).length cz), .c (.int .i64 0)], _, ⟨[0, 1, 2, 3, 17], ⟨rfl, rfl, rfl⟩, ?_⟩, fun he => absurd hE he, fun _ => ⟨cz, hcz, rfl, rfl⟩⟩
    (repeat first | exact trivial | refine ent1 ?_)
    refine eqC_bts (eqC_bts (eqC_bts (eqC_bts ?_)))
    (repeat first | exact trivial | refine ent1 ?_)
  · have e6 : decide (h.sp = 1#8) = false := decide_eq_false h6
    have h7 : h.sp = 0#8 := by
      apply BitVec.eq_of_toNat_eq
      have a1 : h.sp.toNat ≠ 1 := fun e => h6 (BitVec.eq_of_toNat_eq e)
      have a2 : h.sp.toNat ≠ 2 := fun e => h5 (BitVec.eq_of_toNat_eq e)
      show h.sp.toNat = 0
      omega
    have e7 : decide (h.sp = 0#8) = true := decide_eq_true h7
    (repeat first | refine And.intro (by omega) ?_ | refine And.intro (by decide) ?_ | refine And.intro rfl ?_ | refine And.intro (fun _ => ?_) (fun h => Bool.noConfusion h) | refine And.intro (fun h => Bool.noConfusion h) (fun _ => ?_) | refine And.intro (fun _ => ?_) (fun h => absurd h (by rw [e0]; decide)) | refine And.intro (fun h => absurd h (by rw [e0]; decide)) (fun _ => ?_) | refine And.intro (fun _ => ?_) (fun h => absurd h (by rw [e1]; decide)) | refine And.intro (fun h => absurd h (by rw [e1]; decide)) (fun _ => ?_) | refine And.intro (fun _ => ?_) (fun h => absurd h (by rw [e2]; decide)) | refine And.intro (fun h => absurd h (by rw [e2]; decide)) (fun _ => ?_) | refine And.intro (fun _ => ?_) (fun h => absurd h (by rw [e5]; decide)) | refine And.intro (fun h => absurd h (by rw [e5]; decide)) (fun _ => ?_) | refine And.intro (fun _ => ?_) (fun h => absurd h (by rw [e6]; decide)) | refine And.intro (fun h => absurd h (by rw [e6]; decide)) (fun _ => ?_) | refine And.intro (fun _ => ?_) (fun h => absurd h (by rw [e7]; decide)) | refine And.intro (fun h => absurd h (by rw [e7]; decide)) (fun _ => ?_))
    refine call_same (fn_wbytes0 _ (lit_ok (l := [BitVec.ofNat 8 (63 + h.n.l.length) + 128#8, 0#8, 0#8, 0#8, 1#8]) (by simp)) (by simp)) [6, 5] rfl (by (repeat first | exact trivial | refine ent1 ?_)) ?_ (fun _ _ => trivial) ?_
    · refine ⟨rfl, fun j hj => eqC_lit' (l := [BitVec.ofNat 8 (63 + h.n.l.length) + 128#8, 0#8, 0#8, 0#8, 1#8]) (fun j hj => ?_) j, ?_⟩
      · rw [← hf8]; exact nthC_w8 [_, 0#8, 0#8, 0#8, 1#8] j hj
      (repeat first | exact trivial | refine ent1 ?_)
    rintro x hs' ⟨c14, hc14, rfl, rfl⟩
    obtain ⟨B14, hB14⟩ : ∃ B, [BitVec.ofNat 8 (63 + h.n.l.length) + 128#8, 0#8, 0#8, 0#8, 1#8] = B := ⟨_, rfl⟩
    have lB14 : B14.length = ([BitVec.ofNat 8 (63 + h.n.l.length) + 128#8, 0#8, 0#8, 0#8, 1#8]).length := by rw [← hB14]
    try simp only [List.length_cons, List.length_nil, wideL_len] at lB14
    dsimp only at hc14 ⊢
    rw [hB14] at hc14 ⊢
    (repeat first | refine And.intro (by omega) ?_ | refine And.intro (by decide) ?_ | refine And.intro rfl ?_ | refine And.intro (fun _ => ?_) (fun h => Bool.noConfusion h) | refine And.intro (fun h => Bool.noConfusion h) (fun _ => ?_) | refine And.intro (fun _ => ?_) (fun h => absurd h (by rw [e0]; decide)) | refine And.intro (fun h => absurd h (by rw [e0]; decide)) (fun _ => ?_) | refine And.intro (fun _ => ?_) (fun h => absurd h (by rw [e1]; decide)) | refine And.intro (fun h => absurd h (by rw [e1]; decide)) (fun _ => ?_) | refine And.intro (fun _ => ?_) (fun h => absurd h (by rw [e2]; decide)) | refine And.intro (fun h => absurd h (by rw [e2]; decide)) (fun _ => ?_) | refine And.intro (fun _ => ?_) (fun h => absurd h (by rw [e5]; decide)) | refine And.intro (fun h => absurd h (by rw [e5]; decide)) (fun _ => ?_) | refine And.intro (fun _ => ?_) (fun h => absurd h (by rw [e6]; decide)) | refine And.intro (fun h => absurd h (by rw [e6]; decide)) (fun _ => ?_) | refine And.intro (fun _ => ?_) (fun h => absurd h (by rw [e7]; decide)) | refine And.intro (fun h => absurd h (by rw [e7]; decide)) (fun _ => ?_))
    refine call_same (fn_wbytes _ (lit_ok (l := [BitVec.ofNat 8 h.t.l.length]) (by simp)) B14 c14 (by omega) hc14) [8, 5, 7] rfl (by (repeat first | exact trivial | refine ent1 ?_)) ?_ (fun _ _ => trivial) ?_
    · refine ⟨rfl, fun j hj => eqC_lit' (l := [BitVec.ofNat 8 h.t.l.length]) (fun j hj => ?_) j, ?_⟩
      · exact one_row (BitVec.ofInt_natCast 8 _) j hj
      (repeat first | exact trivial | refine ent1 ?_)
    rintro x hs' ⟨c15, hc15, rfl, rfl⟩
    obtain ⟨B15, hB15⟩ : ∃ B, B14 ++ [BitVec.ofNat 8 h.t.l.length] = B := ⟨_, rfl⟩
    have lB15 : B15.length = B14.length + ([BitVec.ofNat 8 h.t.l.length]).length := by rw [← hB15, List.length_append]
    try simp only [List.length_cons, List.length_nil, wideL_len] at lB15
    dsimp only at hc15 ⊢
    rw [hB15] at hc15 ⊢
    (repeat first | refine And.intro (by omega) ?_ | refine And.intro (by decide) ?_ | refine And.intro rfl ?_ | refine And.intro (fun _ => ?_) (fun h => Bool.noConfusion h) | refine And.intro (fun h => Bool.noConfusion h) (fun _ => ?_) | refine And.intro (fun _ => ?_) (fun h => absurd h (by rw [e0]; decide)) | refine And.intro (fun h => absurd h (by rw [e0]; decide)) (fun _ => ?_) | refine And.intro (fun _ => ?_) (fun h => absurd h (by rw [e1]; decide)) | refine And.intro (fun h => absurd h (by rw [e1]; decide)) (fun _ => ?_) | refine And.intro (fun _ => ?_) (fun h => absurd h (by rw [e2]; decide)) | refine And.intro (fun h => absurd h (by rw [e2]; decide)) (fun _ => ?_) | refine And.intro (fun _ => ?_) (fun h => absurd h (by rw [e5]; decide)) | refine And.intro (fun h => absurd h (by rw [e5]; decide)) (fun _ => ?_) | refine And.intro (fun _ => ?_) (fun h => absurd h (by rw [e6]; decide)) | refine And.intro (fun h => absurd h (by rw [e6]; decide)) (fun _ => ?_) | refine And.intro (fun _ => ?_) (fun h => absurd h (by rw [e7]; decide)) | refine And.intro (fun h => absurd h (by rw [e7]; decide)) (fun _ => ?_))
    refine call_same (fn_wbytes h.t ho.t B15 c15 (by omega) hc15) [0, 5, 9] rfl (by (repeat first | exact trivial | refine ent1 ?_)) ?_ (fun _ _ => trivial) ?_
    · refine eqC_bts ?_
      (repeat first | exact trivial | refine ent1 ?_)
    rintro x hs' ⟨c16, hc16, rfl, rfl⟩
    obtain ⟨B16, hB16⟩ : ∃ B, B15 ++ h.t.l = B := ⟨_, rfl⟩
    have lB16 : B16.length = B15.length + (h.t.l).length := by rw [← hB16, List.length_append]
    try simp only [List.length_cons, List.length_nil, wideL_len] at lB16
    dsimp only at hc16 ⊢
    rw [hB16] at hc16 ⊢
    (repeat first | refine And.intro (by omega) ?_ | refine And.intro (by decide) ?_ | refine And.intro rfl ?_ | refine And.intro (fun _ => ?_) (fun h => Bool.noConfusion h) | refine And.intro (fun h => Bool.noConfusion h) (fun _ => ?_) | refine And.intro (fun _ => ?_) (fun h => absurd h (by rw [e0]; decide)) | refine And.intro (fun h => absurd h (by rw [e0]; decide)) (fun _ => ?_) | refine And.intro (fun _ => ?_) (fun h => absurd h (by rw [e1]; decide)) | refine And.intro (fun h => absurd h (by rw [e1]; decide)) (fun _ => ?_) | refine And.intro (fun _ => ?_) (fun h => absurd h (by rw [e2]; decide)) | refine And.intro (fun h => absurd h (by rw [e2]; decide)) (fun _ => ?_) | refine And.intro (fun _ => ?_) (fun h => absurd h (by rw [e5]; decide)) | refine And.intro (fun h => absurd h (by rw [e5]; decide)) (fun _ => ?_) | refine And.intro (fun _ => ?_) (fun h => absurd h (by rw [e6]; decide)) | refine And.intro (fun h => absurd h (by rw [e6]; decide)) (fun _ => ?_) | refine And.intro (fun _ => ?_) (fun h => absurd h (by rw [e7]; decide)) | refine And.intro (fun h => absurd h (by rw [e7]; decide)) (fun _ => ?_))
    refine call_same (fn_wbytes _ (lit_ok (l := [BitVec.ofNat 8 h.f.l.length]) (by simp)) B16 c16 (by omega) hc16) [11, 5, 10] rfl (by (repeat first | exact trivial | refine ent1 ?_)) ?_ (fun _ _ => trivial) ?_
    · refine ⟨rfl, fun j hj => eqC_lit' (l := [BitVec.ofNat 8 h.f.l.length]) (fun j hj => ?_) j, ?_⟩
      · exact one_row (BitVec.ofInt_natCast 8 _) j hj
      (repeat first | exact trivial | refine ent1 ?_)
    rintro x hs' ⟨c17, hc17, rfl, rfl⟩
    obtain ⟨B17, hB17⟩ : ∃ B, B16 ++ [BitVec.ofNat 8 h.f.l.length] = B := ⟨_, rfl⟩
    have lB17 : B17.length = B16.length + ([BitVec.ofNat 8 h.f.l.length]).length := by rw [← hB17, List.length_append]
    try simp only [List.length_cons, List.length_nil, wideL_len] at lB17
    dsimp only at hc17 ⊢
    rw [hB17] at hc17 ⊢
    (repeat first | refine And.intro (by omega) ?_ | refine And.intro (by decide) ?_ | refine And.intro rfl ?_ | refine And.intro (fun _ => ?_) (fun h => Bool.noConfusion h) | refine And.intro (fun h => Bool.noConfusion h) (fun _ => ?_) | refine And.intro (fun _ => ?_) (fun h => absurd h (by rw [e0]; decide)) | refine And.intro (fun h => absurd h (by rw [e0]; decide)) (fun _ => ?_) | refine And.intro (fun _ => ?_) (fun h => absurd h (by rw [e1]; decide)) | refine And.intro (fun h => absurd h (by rw [e1]; decide)) (fun _ => ?_) | refine And.intro (fun _ => ?_) (fun h => absurd h (by rw [e2]; decide)) | refine And.intro (fun h => absurd h (by rw [e2]; decide)) (fun _ => ?_) | refine And.intro (fun _ => ?_) (fun h => absurd h (by rw [e5]; decide)) | refine And.intro (fun h => absurd h (by rw [e5]; decide)) (fun _ => ?_) | refine And.intro (fun _ => ?_) (fun h => absurd h (by rw [e6]; decide)) | refine And.intro (fun h => absurd h (by rw [e6]; decide)) (fun _ => ?_) | refine And.intro (fun _ => ?_) (fun h => absurd h (by rw [e7]; decide)) | refine And.intro (fun h => absurd h (by rw [e7]; decide)) (fun _ => ?_))
    refine call_same (fn_wbytes h.f ho.f B17 c17 (by omega) hc17) [1, 5, 12] rfl (by (repeat first | exact trivial | refine ent1 ?_)) ?_ (fun _ _ => trivial) ?_
    · refine eqC_bts ?_
      (repeat first | exact trivial | refine ent1 ?_)
    rintro x hs' ⟨c18, hc18, rfl, rfl⟩
    obtain ⟨B18, hB18⟩ : ∃ B, B17 ++ h.f.l = B := ⟨_, rfl⟩
    have lB18 : B18.length = B17.length + (h.f.l).length := by rw [← hB18, List.length_append]
    try simp only [List.length_cons, List.length_nil, wideL_len] at lB18
    dsimp only at hc18 ⊢
    rw [hB18] at hc18 ⊢
    (repeat first | refine And.intro (by omega) ?_ | refine And.intro (by decide) ?_ | refine And.intro rfl ?_ | refine And.intro (fun _ => ?_) (fun h => Bool.noConfusion h) | refine And.intro (fun h => Bool.noConfusion h) (fun _ => ?_) | refine And.intro (fun _ => ?_) (fun h => absurd h (by rw [e0]; decide)) | refine And.intro (fun h => absurd h (by rw [e0]; decide)) (fun _ => ?_) | refine And.intro (fun _ => ?_) (fun h => absurd h (by rw [e1]; decide)) | refine And.intro (fun h => absurd h (by rw [e1]; decide)) (fun _ => ?_) | refine And.intro (fun _ => ?_) (fun h => absurd h (by rw [e2]; decide)) | refine And.intro (fun h => absurd h (by rw [e2]; decide)) (fun _ => ?_) | refine And.intro (fun _ => ?_) (fun h => absurd h (by rw [e5]; decide)) | refine And.intro (fun h => absurd h (by rw [e5]; decide)) (fun _ => ?_) | refine And.intro (fun _ => ?_) (fun h => absurd h (by rw [e6]; decide)) | refine And.intro (fun h => absurd h (by rw [e6]; decide)) (fun _ => ?_) | refine And.intro (fun _ => ?_) (fun h => absurd h (by rw [e7]; decide)) | refine And.intro (fun h => absurd h (by rw [e7]; decide)) (fun _ => ?_))
    refine call_same (fn_wlong h.k ho.k B18 c18 (by omega) hc18) [2, 5, 13] rfl (by (repeat first | exact trivial | refine ent1 ?_)) ?_ (fun _ _ => trivial) ?_
    · refine eqC_bts ?_
      (repeat first | exact trivial | refine ent1 ?_)
    rintro x hs' ⟨c19, hc19, rfl, rfl⟩
    obtain ⟨B19, hB19⟩ : ∃ B, B18 ++ longL h.k.l = B := ⟨_, rfl⟩
    have lB19 : B19.length = B18.length + (longL h.k.l).length := by rw [← hB19, List.length_append]
    have lkB19 := longL_len h.k.l
    try simp only [List.length_cons, List.length_nil, wideL_len] at lB19
    dsimp only at hc19 ⊢
    rw [hB19] at hc19 ⊢
    (repeat first | refine And.intro (by omega) ?_ | refine And.intro (by decide) ?_ | refine And.intro rfl ?_ | refine And.intro (fun _ => ?_) (fun h => Bool.noConfusion h) | refine And.intro (fun h => Bool.noConfusion h) (fun _ => ?_) | refine And.intro (fun _ => ?_) (fun h => absurd h (by rw [e0]; decide)) | refine And.intro (fun h => absurd h (by rw [e0]; decide)) (fun _ => ?_) | refine And.intro (fun _ => ?_) (fun h => absurd h (by rw [e1]; decide)) | refine And.intro (fun h => absurd h (by rw [e1]; decide)) (fun _ => ?_) | refine And.intro (fun _ => ?_) (fun h => absurd h (by rw [e2]; decide)) | refine And.intro (fun h => absurd h (by rw [e2]; decide)) (fun _ => ?_) | refine And.intro (fun _ => ?_) (fun h => absurd h (by rw [e5]; decide)) | refine And.intro (fun h => absurd h (by rw [e5]; decide)) (fun _ => ?_) | refine And.intro (fun _ => ?_) (fun h => absurd h (by rw [e6]; decide)) | refine And.intro (fun h => absurd h (by rw [e6]; decide)) (fun _ => ?_) | refine And.intro (fun _ => ?_) (fun h => absurd h (by rw [e7]; decide)) | refine And.intro (fun h => absurd h (by rw [e7]; decide)) (fun _ => ?_))
    have hw : BitVec.ofInt 64 ((h.n.l.length : Int) + (p : Int)) = BitVec.ofNat 64 (h.n.l.length + p) := by
      rw [show (h.n.l.length : Int) + (p : Int) = ((h.n.l.length + p : Nat) : Int) by omega, BitVec.ofInt_natCast]
    have hw2 := lenN2 (n := h.n.l.length + p) (by omega)
    rw [hw]
    refine call_same (fn_vwide (BitVec.ofNat 64 (h.n.l.length + p)) 2 (.inr (.inl rfl)) hw2.1 hw2.2) [] rfl (by (repeat first | exact trivial | refine ent1 ?_)) trivial (fun _ _ => trivial) ?_
    rintro x hs' ⟨cw, hcw, rfl, rfl⟩
    (repeat first | refine And.intro (by omega) ?_ | refine And.intro (by decide) ?_ | refine And.intro rfl ?_ | refine And.intro (fun _ => ?_) (fun h => Bool.noConfusion h) | refine And.intro (fun h => Bool.noConfusion h) (fun _ => ?_) | refine And.intro (fun _ => ?_) (fun h => absurd h (by rw [e0]; decide)) | refine And.intro (fun h => absurd h (by rw [e0]; decide)) (fun _ => ?_) | refine And.intro (fun _ => ?_) (fun h => absurd h (by rw [e1]; decide)) | refine And.intro (fun h => absurd h (by rw [e1]; decide)) (fun _ => ?_) | refine And.intro (fun _ => ?_) (fun h => absurd h (by rw [e2]; decide)) | refine And.intro (fun h => absurd h (by rw [e2]; decide)) (fun _ => ?_) | refine And.intro (fun _ => ?_) (fun h => absurd h (by rw [e5]; decide)) | refine And.intro (fun h => absurd h (by rw [e5]; decide)) (fun _ => ?_) | refine And.intro (fun _ => ?_) (fun h => absurd h (by rw [e6]; decide)) | refine And.intro (fun h => absurd h (by rw [e6]; decide)) (fun _ => ?_) | refine And.intro (fun _ => ?_) (fun h => absurd h (by rw [e7]; decide)) | refine And.intro (fun h => absurd h (by rw [e7]; decide)) (fun _ => ?_))
    refine call_same (fn_wbytes _ (own_ok (l := wideL (BitVec.ofNat 64 (h.n.l.length + p)) 2) (c := cw) (by simpa using hcw) (by simp)) B19 c19 (by omega) hc19) [15, 5, 14] rfl (by (repeat first | exact trivial | refine ent1 ?_)) ?_ (fun _ _ => trivial) ?_
    · refine ⟨rfl, fun j hj => eqC_winBM (Nat.le_refl _), ?_⟩
      (repeat first | exact trivial | refine ent1 ?_)
    rintro x hs' ⟨c20, hc20, rfl, rfl⟩
    obtain ⟨B20, hB20⟩ : ∃ B, B19 ++ wideL (BitVec.ofNat 64 (h.n.l.length + p)) 2 = B := ⟨_, rfl⟩
    have lB20 : B20.length = B19.length + (wideL (BitVec.ofNat 64 (h.n.l.length + p)) 2).length := by rw [← hB20, List.length_append]
    try simp only [List.length_cons, List.length_nil, wideL_len] at lB20
    dsimp only at hc20 ⊢
    rw [hB20] at hc20 ⊢
    (repeat first | refine And.intro (by omega) ?_ | refine And.intro (by decide) ?_ | refine And.intro rfl ?_ | refine And.intro (fun _ => ?_) (fun h => Bool.noConfusion h) | refine And.intro (fun h => Bool.noConfusion h) (fun _ => ?_) | refine And.intro (fun _ => ?_) (fun h => absurd h (by rw [e0]; decide)) | refine And.intro (fun h => absurd h (by rw [e0]; decide)) (fun _ => ?_) | refine And.intro (fun _ => ?_) (fun h => absurd h (by rw [e1]; decide)) | refine And.intro (fun h => absurd h (by rw [e1]; decide)) (fun _ => ?_) | refine And.intro (fun _ => ?_) (fun h => absurd h (by rw [e2]; decide)) | refine And.intro (fun h => absurd h (by rw [e2]; decide)) (fun _ => ?_) | refine And.intro (fun _ => ?_) (fun h => absurd h (by rw [e5]; decide)) | refine And.intro (fun h => absurd h (by rw [e5]; decide)) (fun _ => ?_) | refine And.intro (fun _ => ?_) (fun h => absurd h (by rw [e6]; decide)) | refine And.intro (fun h => absurd h (by rw [e6]; decide)) (fun _ => ?_) | refine And.intro (fun _ => ?_) (fun h => absurd h (by rw [e7]; decide)) | refine And.intro (fun h => absurd h (by rw [e7]; decide)) (fun _ => ?_))
    refine call_same (fn_wbytes h.n ho.n B20 c20 (by omega) hc20) [3, 5, 16] rfl (by (repeat first | exact trivial | refine ent1 ?_)) ?_ (fun _ _ => trivial) ?_
    · refine eqC_bts ?_
      (repeat first | exact trivial | refine ent1 ?_)
    rintro x hs' ⟨c21, hc21, rfl, rfl⟩
    obtain ⟨B21, hB21⟩ : ∃ B, B20 ++ h.n.l = B := ⟨_, rfl⟩
    have lB21 : B21.length = B20.length + (h.n.l).length := by rw [← hB21, List.length_append]
    try simp only [List.length_cons, List.length_nil, wideL_len] at lB21
    dsimp only at hc21 ⊢
    rw [hB21] at hc21 ⊢
    (repeat first | refine And.intro (by omega) ?_ | refine And.intro (by decide) ?_ | refine And.intro rfl ?_ | refine And.intro (fun _ => ?_) (fun h => Bool.noConfusion h) | refine And.intro (fun h => Bool.noConfusion h) (fun _ => ?_) | refine And.intro (fun _ => ?_) (fun h => absurd h (by rw [e0]; decide)) | refine And.intro (fun h => absurd h (by rw [e0]; decide)) (fun _ => ?_) | refine And.intro (fun _ => ?_) (fun h => absurd h (by rw [e1]; decide)) | refine And.intro (fun h => absurd h (by rw [e1]; decide)) (fun _ => ?_) | refine And.intro (fun _ => ?_) (fun h => absurd h (by rw [e2]; decide)) | refine And.intro (fun h => absurd h (by rw [e2]; decide)) (fun _ => ?_) | refine And.intro (fun _ => ?_) (fun h => absurd h (by rw [e5]; decide)) | refine And.intro (fun h => absurd h (by rw [e5]; decide)) (fun _ => ?_) | refine And.intro (fun _ => ?_) (fun h => absurd h (by rw [e6]; decide)) | refine And.intro (fun h => absurd h (by rw [e6]; decide)) (fun _ => ?_) | refine And.intro (fun _ => ?_) (fun h => absurd h (by rw [e7]; decide)) | refine And.intro (fun h => absurd h (by rw [e7]; decide)) (fun _ => ?_))
    refine call_same (fn_wdone B21 c21 (by omega) hc21 (by omega)) [5, 17] rfl (by (repeat first | exact trivial | refine ent1 ?_)) ?_ (fun _ _ => trivial) ?_
    · (repeat first | exact trivial | refine ent1 ?_)
    rintro x hs' ⟨cz, hcz, rfl, rfl⟩
    have hP : B21 = putH h p := by rw [← hB21, ← hB20, ← hB19, ← hB18, ← hB17, ← hB16, ← hB15, ← hB14]; unfold putH fstB; simp [h7]
    rw [hP] at hcz ⊢
    refine ⟨.tup [.c (.sl 4 0 0 (putH h p).length cz), .c (.int .i64 0)], _, ⟨[0, 1, 2, 3, 18], ⟨rfl, rfl, rfl⟩, ?_⟩, fun he => absurd hE he, fun _ => ⟨cz, hcz, rfl, rfl⟩⟩
    (repeat first | exact trivial | refine ent1 ?_)
    refine eqC_bts (eqC_bts (eqC_bts (eqC_bts ?_)))
    (repeat first | exact trivial | refine ent1 ?_)
end Sx
end Go.Proofs.YtkjdkeolkigibaaGreat
end

section
/-
  Headers put, and taken back: plain. No condition.
-/
namespace Go.Proofs.YtkjdkeolkigibaaGreat
set_option linter.unusedVariables false
namespace Vi
open Sha
theorem bytes_app (a r : Bs) : bytesM (a ++ r) 0 (a.length : Int) = (a, r, 0) := by
  unfold bytesM
  rw [if_neg (by decide), if_neg (by rw [List.length_append]; omega)]
  simp
theorem byte_app (x : BitVec 8) (r : Bs) : byteM (x :: r) 0 = (x, r, 0) := by
  unfold byteM
  have := bytes_app [x] r
  simp only [List.length_singleton, List.singleton_append] at this
  rw [show (1 : Int) = ((1 : Nat) : Int) from rfl, this]
  rfl
theorem id_app {t : Bs} (h : t.length ≤ 20) (r : Bs) : idM (BitVec.ofNat 8 t.length :: (t ++ r)) 0 = (t, r, 0) := by
  unfold idM
  rw [byte_app]
  have e : (BitVec.ofNat 8 t.length).toNat = t.length := by rw [BitVec.toNat_ofNat]; omega
  show (match (if 20 < (BitVec.ofNat 8 t.length).toNat then failM (t ++ r) 0 6 else (t ++ r, 0)) with | (l2, e2) => bytesM l2 e2 ((BitVec.ofNat 8 t.length).toNat : Int)) = _
  rw [e, if_neg (by omega)]
  exact bytes_app t r
theorem next_app {n : BitVec 64} {k : Nat} (hk : okSz k) (h0 : lenN n ≠ 0) (h1 : lenN n ≤ k) (r : Bs) : nextM (wideL n k ++ r) 0 = ((n, k, true), r, 0) := by
  obtain ⟨a, b⟩ := take_wide hk h0 h1 r
  have e : takeM (wideL n k ++ r) = (n, k, 0) := by
    unfold takeM
    rw [a, if_neg, b]
    rw [List.length_append, wideL_len]
    rcases hk with rfl | rfl | rfl | rfl <;> omega
  unfold nextM
  rw [e, if_neg (by decide), if_neg (fun q => q rfl)]
  have : (wideL n k ++ r).drop k = r := by
    have := List.drop_left (l₁ := wideL n k) (l₂ := r)
    rw [wideL_len] at this
    exact this
  show ((n, k, true), (wideL n k ++ r).drop k, 0) = _
  rw [this]
theorem count_app {n : BitVec 64} {k most : Nat} (hk : okSz k) (h0 : lenN n ≠ 0) (h1 : lenN n ≤ k) (h2 : n.toNat ≤ most) (r : Bs) : countM (wideL n k ++ r) 0 most = (n.toNat, r, 0) := by
  unfold countM
  rw [next_app hk h0 h1]
  show (if true = false then (0, r, 0) else if most < n.toNat then (0, [], 2) else (n.toNat, r, 0)) = _
  rw [if_neg (by decide), if_neg (by omega)]
theorem num64 {m : Nat} (h : m ≤ 2000) : (BitVec.ofNat 64 m).toNat = m := by rw [BitVec.toNat_ofNat]; omega
theorem long_app {l : Bs} (h : l.length ≤ 64) (r : Bs) : longM (longL l ++ r) 0 64 = (l, r, 0) := by
  have h0 := lenN_of (n := l.length) (by omega)
  unfold longM longL putL
  rw [List.append_assoc, count_app (lenN_ok h0) h0 (Nat.le_refl _) (by rw [num64 (by omega)]; exact h)]
  show bytesM (l ++ r) 0 (((BitVec.ofNat 64 l.length).toNat : Nat) : Int) = _
  rw [num64 (by omega)]
  exact bytes_app l r
theorem len_app {m : Nat} (h : m ≤ 1204) {r : Bs} (hr : m ≤ r.length) : lenM (wideL (BitVec.ofNat 64 m) 2 ++ r) 0 = (m, r, 0) := by
  have h0 := lenN_of (n := m) (by omega)
  have hs := lenN_spec (BitVec.ofNat 64 m)
  rw [num64 (by omega)] at hs
  unfold lenM
  rw [count_app (.inr (.inl rfl)) h0 (by omega) (by rw [num64 (by omega)]; exact h)]
  show (match (if r.length < (BitVec.ofNat 64 m).toNat then failM r 0 3 else (r, 0)) with | (l2, e2) => ((BitVec.ofNat 64 m).toNat, l2, e2)) = _
  rw [num64 (by omega), if_neg (by omega)]
theorem parts_app {sp : BitVec 8} {t f k : Bs} {m : Nat} (ht : t.length ≤ 20) (hf : f.length ≤ 20) (hk : k.length ≤ 64) (hs : sp ≠ 0#8 → k = []) (hm : m ≤ 1204) {r : Bs} (hr : m ≤ r.length) :
    partsM sp (BitVec.ofNat 8 t.length :: (t ++ (BitVec.ofNat 8 f.length :: (f ++ ((if sp = 0#8 then longL k else []) ++ (wideL (BitVec.ofNat 64 m) 2 ++ r)))))) 0 = ((t, f, k, m), r, 0) := by
  unfold partsM
  rw [id_app ht]
  dsimp only
  rw [id_app hf]
  dsimp only
  by_cases h : sp = 0#8
  · rw [if_pos h, if_pos h, long_app hk]
    dsimp only
    rw [len_app hm hr]
  · rw [if_neg h, if_neg h, hs h]
    dsimp only
    rw [List.nil_append, len_app hm hr]
end Vi
namespace Sx
open Sha Vi
theorem checkM_more {h : Hd} (e : checkM h = 0) : (h.sp ≠ 0#8 → h.k.l = []) ∧ (h.sp = 2#8 → h.f.l = []) ∧ (h.sp ≠ 2#8 → h.turn = false) := by
  unfold checkM at e
  split at e
  · cases e
  split at e
  · cases e
  split at e
  · cases e
  split at e
  · cases e
  rename_i h1
  split at e
  · cases e
  rename_i h2
  split at e
  · cases e
  rename_i h3
  refine ⟨fun hs => ?_, fun hs => ?_, fun hs => ?_⟩
  · exact List.eq_nil_of_length_eq_zero (by by_cases hh : 0 < h.k.l.length; exact absurd ⟨hh, hs⟩ h1; omega)
  · exact List.eq_nil_of_length_eq_zero (by by_cases hh : 0 < h.f.l.length; exact absurd ⟨hh, hs⟩ h2; omega)
  · cases ht : h.turn with
    | false => rfl
    | true => exact absurd ⟨ht, hs⟩ h3
theorem sp3 : ∀ x : BitVec 8, x.toNat < 3 → x = 0#8 ∨ x = 1#8 ∨ x = 2#8 := by decide +kernel
theorem fstB_s {h : Hd} (e : checkM h = 0) (hs : h.sp = 2#8) : fstB h &&& 64#8 ≠ 0#8 ∧ fstB h &&& 128#8 = 0#8 ∧ noneB h.sp (fstB h) = 0#8 ∧ manyB (fstB h) = h.n.l.length ∧ decide (fstB h &&& 4#8 ≠ 0#8) = h.turn := by
  obtain ⟨_, _, _, _, a, b⟩ := checkM_0 e
  unfold fstB noneB
  rw [if_pos hs, if_pos hs]
  have : h.n.l.length = 1 ∨ h.n.l.length = 2 ∨ h.n.l.length = 3 ∨ h.n.l.length = 4 := by omega
  cases h.turn <;> rcases this with q | q | q | q <;> rw [q] <;> decide
theorem fstB_l {h : Hd} (e : checkM h = 0) (hs : h.sp ≠ 2#8) : fstB h &&& 64#8 ≠ 0#8 ∧ fstB h &&& 128#8 ≠ 0#8 ∧ noneB h.sp (fstB h) = 0#8 ∧ manyB (fstB h) = h.n.l.length ∧
    ¬ (fstB h &&& 48#8 ≠ 0#8 ∧ fstB h &&& 48#8 ≠ 32#8) ∧ (if fstB h &&& 48#8 = 0#8 then 0#8 else 1#8) = h.sp := by
  obtain ⟨s, _, _, _, a, b⟩ := checkM_0 e
  unfold fstB noneB
  rw [if_neg hs, if_neg hs]
  have : h.n.l.length = 1 ∨ h.n.l.length = 2 ∨ h.n.l.length = 3 ∨ h.n.l.length = 4 := by omega
  rcases sp3 _ s with q | q | q
  · rw [q]; rcases this with q | q | q | q <;> rw [q] <;> decide
  · rw [q]; rcases this with q | q | q | q <;> rw [q] <;> decide
  · exact absurd q hs
theorem putH_long {h : Hd} (hs : h.sp ≠ 2#8) (p : Nat) (r : Bs) : putH h p ++ r = fstB h :: 0#8 :: 0#8 :: 0#8 :: 1#8 :: (BitVec.ofNat 8 h.t.l.length :: (h.t.l ++ (BitVec.ofNat 8 h.f.l.length :: (h.f.l ++ ((if h.sp = 0#8 then longL h.k.l else []) ++ (wideL (BitVec.ofNat 64 (h.n.l.length + p)) 2 ++ (h.n.l ++ r))))))) := by
  unfold putH
  rw [if_neg hs]
  simp only [List.append_assoc, List.cons_append, List.nil_append]
theorem putH_short {h : Hd} (hs : h.sp = 2#8) (p : Nat) (r : Bs) : putH h p ++ r = fstB h :: (h.t.l ++ (h.n.l ++ r)) := by
  unfold putH
  rw [if_pos hs]
  simp only [List.append_assoc, List.cons_append, List.nil_append]
theorem putH_fst (h : Hd) (p : Nat) (r : Bs) : L (putH h p ++ r) 0 = fstB h := by
  by_cases hs : h.sp = 2#8
  · rw [putH_short hs]; rfl
  · rw [putH_long hs]; rfl
theorem putH_n (h : Hd) (p : Nat) : ∃ H, putH h p = H ++ h.n.l ∧ 1 ≤ H.length := by
  unfold putH
  split
  · exact ⟨_, rfl, by simp⟩
  · exact ⟨_, rfl, by simp⟩
theorem parse_put {h : Hd} (e : checkM h = 0) {p : Nat} (hp : p ≤ 1000) {r : Bs} (hr : p ≤ r.length) :
    parseP (putH h p ++ r) (h.t.l.length : Nat) = .ok h.sp h.t.l h.f.l h.k.l ((putH h p).length - h.n.l.length) (if h.sp = 2#8 then (putH h p ++ r).length else (putH h p).length + p) := by
  obtain ⟨a0, a1, a2, a3, a4, a5⟩ := checkM_0 e
  obtain ⟨b0, b1, b2⟩ := checkM_more e
  have hid : idN (h.t.l.length : Nat) = h.t.l.length := by unfold idN; rw [Int.toNat_natCast]; omega
  have hl : (putH h p ++ r).length ≠ 0 := by
    obtain ⟨H, e, _⟩ := putH_n h p
    rw [e, List.length_append, List.length_append]
    omega
  unfold parseP
  rw [if_neg hl, putH_fst, hid]
  by_cases hs : h.sp = 2#8
  · obtain ⟨c0, c1, _, _, _⟩ := fstB_s e hs
    rw [if_neg c0, if_neg (fun q => q c1), if_pos hs, b1 hs, b0 (by rw [hs]; decide), hs]
    have hH : (putH h p).length = 1 + h.t.l.length + h.n.l.length := by unfold putH; rw [if_pos hs]; simp [Nat.add_assoc]; omega
    rw [if_neg (by rw [List.length_append, hH]; omega), hH]
    have d : ((putH h p ++ r).drop 1).take h.t.l.length = h.t.l := by rw [putH_short hs]; simp
    rw [d, Nat.add_sub_cancel]
  · obtain ⟨c0, c1, _, _, c2, c3⟩ := fstB_l e hs
    rw [if_neg c0, if_pos c1, if_neg hs]
    unfold longP
    rw [putH_fst, if_neg c2, c3]
    have d4 : ((putH h p ++ r).drop 1).take 4 = [0#8, 0#8, 0#8, 1#8] := by rw [putH_long hs]; rfl
    rw [if_neg (fun q => q.2 d4)]
    have hb := bytes_app [fstB h, 0#8, 0#8, 0#8, 1#8] (BitVec.ofNat 8 h.t.l.length :: (h.t.l ++ (BitVec.ofNat 8 h.f.l.length :: (h.f.l ++ ((if h.sp = 0#8 then longL h.k.l else []) ++ (wideL (BitVec.ofNat 64 (h.n.l.length + p)) 2 ++ (h.n.l ++ r)))))))
    rw [show bytesM (putH h p ++ r) 0 5 = bytesM (putH h p ++ r) 0 (([fstB h, 0#8, 0#8, 0#8, 1#8] : Bs).length : Int) from rfl]
    rw [(congrArg (fun x => bytesM x 0 (([fstB h, 0#8, 0#8, 0#8, 1#8] : Bs).length : Int)) (putH_long hs p r)).trans hb]
    dsimp only
    rw [parts_app a1 a2 a3 b0 (by omega) (by rw [List.length_append]; omega)]
    dsimp only
    rw [if_neg (fun q => q rfl)]
    obtain ⟨H, eH, hH1⟩ := putH_n h p
    have e1 : (putH h p ++ r).length - (h.n.l ++ r).length = (putH h p).length - h.n.l.length := by
      rw [eH]; simp only [List.length_append]; omega
    have e2 : (putH h p).length - h.n.l.length + (h.n.l.length + p) = (putH h p).length + p := by
      rw [eH]; simp only [List.length_append]; omega
    rw [e1, e2]
theorem putH_le {h : Hd} (e : checkM h = 0) (p : Nat) : (putH h p).length ≤ 200 := by
  obtain ⟨a0, a1, a2, a3, a4, a5⟩ := checkM_0 e
  have := longL_len h.k.l
  unfold putH
  split
  · simp; omega
  · split <;> simp <;> omega
end Sx
end Go.Proofs.YtkjdkeolkigibaaGreat
end

section
/-
  The document's block, turned. No condition.
-/
namespace Go.Proofs.YtkjdkeolkigibaaGreat
set_option linter.unusedVariables false
namespace Sx
open Aes

end Sx
end Go.Proofs.YtkjdkeolkigibaaGreat
end

section
/-
  The document's field of 2^128. No condition.
-/
namespace Go.Proofs.YtkjdkeolkigibaaGreat
set_option linter.unusedVariables false
namespace Gcm
end Gcm
namespace Sx
open Aes Gcm Sha

end Sx
end Go.Proofs.YtkjdkeolkigibaaGreat
end

section
/-
  The field of 256: the program's way and the document's are one; round keys and blocks too. Plain. No condition.
-/
namespace Go.Proofs.YtkjdkeolkigibaaGreat
set_option linter.unusedVariables false
namespace Aes

/-! The document's product. -/
/-! Inverses. -/
/-! Columns. -/
/-! Round keys. -/
section
variable {B : Nat → BitVec 8} (hB : ∀ x : BitVec 8, B x.toNat = box x) (key : Nat → BitVec 8)
include hB
end
end Aes
end Go.Proofs.YtkjdkeolkigibaaGreat
end

section
/-
  A key and a block whose turned block is known: the model's answer. Plain. No condition.
-/
namespace Go.Proofs.YtkjdkeolkigibaaGreat
set_option linter.unusedVariables false
namespace Aes

def ofL (l : List Nat) (i : Nat) : BitVec 8 := BitVec.ofNat 8 (l.getD i 0)
def KeyAt (K : Nat → BitVec 8) (r : Nat) (l : List Nat) (p : BitVec 8) : Prop := (∀ j, j < 16 → (pKeyS K r).1 (16 * r + j) = ofL l j) ∧ (pKeyS K r).2 = p
theorem pKeyS_up (K : Nat → BitVec 8) (r i : Nat) (hi : i < 16 * (r + 1)) : ∀ n, (pKeyS K (r + n)).1 i = (pKeyS K r).1 i
  | 0 => rfl
  | n + 1 => by
    rw [← Nat.add_assoc]
    simp only [pKeyS]
    rw [if_pos (by omega), pKeyS_up K r i hi n]
theorem KeyAt.key {K : Nat → BitVec 8} {r : Nat} {l : List Nat} {p : BitVec 8} (h : KeyAt K r l p) (hr : r ≤ 10) (j : Nat) (hj : j < 16) : pKeys K (16 * r + j) = ofL l j := by
  have := pKeyS_up K r (16 * r + j) (by omega) (10 - r)
  rw [show r + (10 - r) = 10 by omega] at this
  unfold pKeys
  rw [this, h.1 j hj]
end Aes
end Go.Proofs.YtkjdkeolkigibaaGreat
end

section
/-
  Unlike blocks stay unlike under one key. Plain. No condition.
-/
namespace Go.Proofs.YtkjdkeolkigibaaGreat
set_option linter.unusedVariables false
namespace Aes

end Aes
end Go.Proofs.YtkjdkeolkigibaaGreat
end

section
/-
  The document's Seal. No condition.
-/
namespace Go.Proofs.YtkjdkeolkigibaaGreat
set_option linter.unusedVariables false
namespace Gcm
open Sha
end Gcm
namespace Sx
open Aes Gcm Sha

end Sx
end Go.Proofs.YtkjdkeolkigibaaGreat
end

section
/-
  The law's fixed fact of layer 6: a key of noughts, a nonce of noughts: the model's answer. Plain. No condition.
-/
namespace Go.Proofs.YtkjdkeolkigibaaGreat
set_option linter.unusedVariables false
namespace Aes
open Gcm
end Aes
end Go.Proofs.YtkjdkeolkigibaaGreat
end

section
/-
  binnacle/binnaclelaw06: the laws of sealing, walked. No condition.
-/
namespace Go.Proofs.YtkjdkeolkigibaaGreat
set_option linter.unusedVariables false
namespace Gcm
open Sha
theorem cryL_cryL (E : (Nat → BitVec 8) → Nat → BitVec 8) (nn : Nat → BitVec 8) (l : Bs) : cryL E nn (cryL E nn l) = l := by
  refine ext_L (by simp) fun i hi => ?_
  have hi' : i < l.length := by simpa using hi
  show L (tab (cryL E nn l).length (cryB E nn (cryL E nn l))) i = _
  rw [L_tab (by simpa using hi')]
  unfold cryB
  have : L (cryL E nn l) i = L l i ^^^ E (ctrB nn (BitVec.ofNat 32 (2 + i / 16))) (i % 16) := by
    unfold cryL; rw [L_tab hi']; rfl
  rw [this, BitVec.xor_assoc, BitVec.xor_self, BitVec.xor_zero]
theorem seal_take (E : (Nat → BitVec 8) → Nat → BitVec 8) (H : Gcm.E) (nn : Nat → BitVec 8) (a p : Bs) : (sealL E H nn a p).take ((sealL E H nn a p).length - 16) = cryL E nn p := by
  rw [sealL_len, Nat.add_sub_cancel]
  unfold sealL
  rw [List.take_left' (by simp)]
theorem seal_tag (E : (Nat → BitVec 8) → Nat → BitVec 8) (H : Gcm.E) (nn : Nat → BitVec 8) (a p : Bs) (i : Nat) (hi : i < 16) : L (sealL E H nn a p) (p.length + i) = tagB E H nn a (cryL E nn p) i := by
  unfold sealL
  have := @L_app2 (cryL E nn p) (tab 16 (tagB E H nn a (cryL E nn p))) i
  rw [cryL_len] at this
  rw [this, L_tab hi]
end Gcm
namespace Gcm
open Sha
end Gcm
namespace Sx
open Aes Gcm Sha

end Sx
end Go.Proofs.YtkjdkeolkigibaaGreat
end

section
/-
  Packets, protected: plain. No condition.
-/
namespace Go.Proofs.YtkjdkeolkigibaaGreat
set_option linter.unusedVariables false
namespace Vi
open Sha
/-- Which bits of the first byte are hidden. -/
def hidB (sp : BitVec 8) : BitVec 8 := if sp = 2#8 then 31#8 else 15#8
/-- A packet whose first byte and number (k bytes at a place) are hidden, or shown, by m. -/
def maskL (m : Nat → BitVec 8) (h : BitVec 8) (at_ k : Nat) (b : Bs) : Bs := tab b.length fun i => if i = 0 then L b 0 ^^^ (m 0 &&& h) else if at_ ≤ i ∧ i < at_ + k then L b i ^^^ m (1 + (i - at_)) else L b i
@[simp] theorem maskL_len (m : Nat → BitVec 8) (h : BitVec 8) (at_ k : Nat) (b : Bs) : (maskL m h at_ k b).length = b.length := tab_len _ _
theorem maskL_at {m : Nat → BitVec 8} {h : BitVec 8} {at_ k : Nat} {b : Bs} {i : Nat} (hi : i < b.length) : L (maskL m h at_ k b) i = if i = 0 then L b 0 ^^^ (m 0 &&& h) else if at_ ≤ i ∧ i < at_ + k then L b i ^^^ m (1 + (i - at_)) else L b i := L_tab hi
theorem xor2 (a x : BitVec 8) : a ^^^ x ^^^ x = a := by rw [BitVec.xor_assoc, BitVec.xor_self, BitVec.xor_zero]
theorem maskL2 (m : Nat → BitVec 8) (h : BitVec 8) (at_ k : Nat) (b : Bs) (ha : 1 ≤ at_) : maskL m h at_ k (maskL m h at_ k b) = b := by
  refine ext_L (by simp) fun i hi => ?_
  have hi' : i < b.length := by simpa using hi
  rw [maskL_at (by simpa using hi')]
  by_cases h0 : i = 0
  · rw [if_pos h0, maskL_at (by omega), if_pos rfl, h0, xor2]
  · rw [if_neg h0, maskL_at hi', if_neg h0]
    by_cases h1 : at_ ≤ i ∧ i < at_ + k
    · rw [if_pos h1, if_pos h1, xor2]
    · rw [if_neg h1, if_neg h1]
theorem maskL_app (m : Nat → BitVec 8) (h : BitVec 8) (at_ k : Nat) (b r : Bs) (hb : 0 < b.length) (hk : at_ + k ≤ b.length) : maskL m h at_ k (b ++ r) = maskL m h at_ k b ++ r := by
  refine ext_L (by simp) fun i hi => ?_
  have hi' : i < (b ++ r).length := by simpa using hi
  rw [maskL_at hi', L_app, L_app, L_app, maskL_len, if_pos hb]
  by_cases h1 : i < b.length
  · rw [if_pos h1, if_pos h1, maskL_at h1]
  · rw [if_neg h1, if_neg h1, if_neg (by omega), if_neg (by omega)]
/-- What is parsed doesn't hang on the hidden bits. -/
theorem parse_first {x y : BitVec 8} {t : Bs} (h1 : x &&& 64#8 = y &&& 64#8) (h2 : x &&& 128#8 = y &&& 128#8) (h3 : y &&& 128#8 ≠ 0#8 → x &&& 48#8 = y &&& 48#8) (id : Int) : parseP (x :: t) id = parseP (y :: t) id := by
  have e : ∀ z : BitVec 8, L (z :: t) 0 = z := fun _ => rfl
  have hb : ∀ z : BitVec 8, (z :: t).length = t.length + 1 := fun _ => rfl
  have hd : ∀ z : BitVec 8, (z :: t).drop 1 = t := fun _ => rfl
  have hl : y &&& 128#8 ≠ 0#8 → longP (x :: t) = longP (y :: t) := fun hy => by
    by_cases h5 : 5 ≤ t.length + 1
    · have ex : ∀ z : BitVec 8, bytesM (z :: t) 0 5 = (z :: t.take 4, t.drop 4, 0) := fun z => by
        unfold bytesM
        rw [if_neg (fun h => h rfl), if_neg (by rw [hb]; omega)]
        rfl
      unfold longP
      rw [e, e, hb, hb, hd, hd, h3 hy, ex, ex]
    · have ex : ∀ z : BitVec 8, bytesM (z :: t) 0 5 = ([], [], 3) := fun z => by
        unfold bytesM
        rw [if_neg (fun h => h rfl), if_pos (by rw [hb]; omega)]
      unfold longP
      rw [e, e, hb, hb, hd, hd, h3 hy, ex, ex]
  unfold parseP
  rw [e, e, hb, hb, hd, hd, h1, h2]
  by_cases hy : y &&& 128#8 = 0#8
  · have q : ¬ (y &&& 128#8 ≠ 0#8) := fun h => h hy
    simp only [q, if_false]
  · rw [hl hy]
end Vi
end Go.Proofs.YtkjdkeolkigibaaGreat
end

section
/-
  Headers with packets' numbers; packets' headers in memory of their own; masks. No condition.
-/
namespace Go.Proofs.YtkjdkeolkigibaaGreat
set_option linter.unusedVariables false
namespace Sx
open Sha Vi Aes Gcm

set_option maxRecDepth 20000 in
set_option maxHeartbeats 4000000 in
theorem fn_hwith (h : Hd) (ho : h.Ok) (n : BitVec 64) (acked : Int) (ha : -9223372036854775808 ≤ acked ∧ acked ≤ 9223372036854775807) : FnR Tryz.prog tds 33 4 (hdB h) [.agg (hdC 0 1 2 3 h), .c (.w64 n), .c (.int .i64 acked)] (fun _ => True)
    (fun y hs => ∃ g : Hd, g.Ok ∧ g.sp = h.sp ∧ g.turn = h.turn ∧ g.t.l = h.t.l ∧ g.f.l = h.f.l ∧ g.k.l = h.k.l ∧ g.n.l = cutM n (sizeM n acked) ∧ y = .a (.agg (hdC 4 5 6 7 g)) ∧ hs = hdB h ++ hdB g) := by
  refine fn_of_body tds_ok follows_ Tryz.func33 rfl (t := .a (.agg (hdC 0 1 2 3 h)) :: .a (.c (.w64 n)) :: .a (.c (.int .i64 acked)) :: anys (Tryz.f33.ntmps - 3)) rfl (fun w r0 hr _ => ?_)
  obtain ⟨x0, x1, x2, x3, rfl⟩ := len4' hr
  (repeat first | refine And.intro (by omega) ?_ | refine And.intro (by decide) ?_ | (with_reducible refine frc_parts (by first | omega | decide) ?_) | (with_reducible refine frc_bytesL (by first | omega | decide) ?_) | refine And.intro rfl ?_)
  refine call_same (fn_hown h ho) [0, 1, 2, 3] rfl (by (repeat first | exact trivial | refine ent1 ?_)) ?_ (fun _ _ => trivial) ?_
  · refine eqC_bts (eqC_bts (eqC_bts (eqC_bts ?_)))
    (repeat first | exact trivial | refine ent1 ?_)
  rintro x hs ⟨g, hg, hq, rfl, rfl⟩
  (repeat first | refine And.intro (by omega) ?_ | refine And.intro (by decide) ?_ | (with_reducible refine frc_parts (by first | omega | decide) ?_) | (with_reducible refine frc_bytesL (by first | omega | decide) ?_) | refine And.intro rfl ?_)
  refine call_same (fn_psize n acked ha) [] rfl (by (repeat first | exact trivial | refine ent1 ?_)) trivial (fun _ _ => trivial) ?_
  rintro x hs ⟨rfl, rfl⟩
  (repeat first | refine And.intro (by omega) ?_ | refine And.intro (by decide) ?_ | (with_reducible refine frc_parts (by first | omega | decide) ?_) | (with_reducible refine frc_bytesL (by first | omega | decide) ?_) | refine And.intro rfl ?_)
  refine call_same (fn_pcut n (sizeM n acked) (sizeM_le n acked)) [] rfl (by (repeat first | exact trivial | refine ent1 ?_)) trivial (fun _ _ => trivial) ?_
  rintro x hs ⟨rfl, rfl⟩
  have lc : (cutM n (sizeM n acked)).length = sizeM n acked := tab_len _ _
  have sl := sizeM_le n acked
  (repeat first | refine And.intro (by omega) ?_ | refine And.intro (by decide) ?_ | (with_reducible refine frc_parts (by first | omega | decide) ?_) | (with_reducible refine frc_bytesL (by first | omega | decide) ?_) | refine And.intro rfl ?_)
  refine ⟨.a (.agg (hdC 4 5 6 7 ⟨g.sp, g.t, g.f, g.k, g.turn, ⟨false, sizeM n acked, 0, sizeM n acked, cutM n (sizeM n acked)⟩⟩)), _, ⟨[0, 1, 2, 3, 6, 7, 8, 10], ⟨rfl, rfl, rfl⟩, ?_⟩, ⟨g.sp, g.t, g.f, g.k, g.turn, ⟨false, sizeM n acked, 0, sizeM n acked, cutM n (sizeM n acked)⟩⟩, ⟨hg.t, hg.f, hg.k, own_ok (by omega) (by omega)⟩, hq.sp, hq.turn, hq.t, hq.f, hq.k, rfl, rfl, rfl⟩
  (repeat first | exact trivial | refine ent1 ?_)
  refine eqC_bts (eqC_bts (eqC_bts (eqC_bts ?_)))
  refine eqC_btsM (eqC_btsM (eqC_btsM (eqC_btsM ?_)))
  (repeat first | exact trivial | refine ent1 ?_)
set_option maxRecDepth 20000 in
theorem fn_bclone (s : Sl) (hs : s.Ok) : FnR Tryz.prog tds 26 1 [svB s] [.c (svC 0 s)] (fun _ => True)
    (fun y hs => ∃ hs', PadTo hs hs' ∧ ∃ t : Sl, t.Ok ∧ t.l = s.l ∧ y = .a (.c (svC 1 t)) ∧ hs' = [svB s, svB t]) := by
  refine fn_of_body tds_ok follows_ Tryz.func26 rfl (t := .a (.c (svC 0 s)) :: anys (Tryz.f26.ntmps - 1)) rfl (fun w r0 hr _ => ?_)
  obtain ⟨x0, rfl⟩ := List.length_eq_one_iff.1 hr
  have hsm := hs.small
  cases hz : s.z with
  | true =>
    have hl := hs.nil hz
    (repeat first | refine And.intro (by omega) ?_ | refine And.intro (by decide) ?_ | refine And.intro rfl ?_ | refine And.intro (fun _ => ?_) (fun h => Bool.noConfusion h) | refine And.intro (fun h => Bool.noConfusion h) (fun _ => ?_) | refine And.intro (fun _ => ?_) (fun h => absurd h (by rw [hz]; decide)) | refine And.intro (fun h => absurd h (by rw [hz]; decide)) (fun _ => ?_))
    refine ⟨.a (.c (svC 1 ⟨true, 0, 0, 0, []⟩)), [svB s], ⟨[0], ⟨rfl, rfl, rfl⟩, ?_⟩, [svB s, []], ⟨1, rfl⟩, ⟨true, 0, 0, 0, []⟩, nil_ok, hl.symm, rfl, rfl⟩
    (repeat first | exact trivial | refine ent1 ?_)
    refine eqC_bts ?_
    (repeat first | exact trivial | refine ent1 ?_)
  | false =>
    (repeat first | refine And.intro (by omega) ?_ | refine And.intro (by decide) ?_ | refine And.intro rfl ?_ | refine And.intro (fun _ => ?_) (fun h => Bool.noConfusion h) | refine And.intro (fun h => Bool.noConfusion h) (fun _ => ?_) | refine And.intro (fun _ => ?_) (fun h => absurd h (by rw [hz]; decide)) | refine And.intro (fun h => absurd h (by rw [hz]; decide)) (fun _ => ?_))
    refine sn_bts rfl hs.fit (fun h => by rw [hs.nil h]; rfl) (fun g hg => ?_)
    refine ⟨⟨Nat.le_refl _, Nat.le_refl _, by show (0 + s.l.length) * 1 ≤ 140737488355328; omega⟩, fun c' hc' => ?_⟩
    refine ⟨.a (.c (svC 1 ⟨false, c', 0, c', s.l⟩)), [svB s, svB ⟨false, c', 0, c', s.l⟩], ⟨[0, 2], ⟨rfl, rfl, rfl⟩, ?_⟩, _, PadTo.refl _, ⟨false, c', 0, c', s.l⟩, own_ok (by omega) hsm, rfl, rfl, rfl⟩
    (repeat first | exact trivial | refine ent1 ?_)
    refine ⟨Nat.zero_add _, rfl, ?_⟩
    refine eqC_bts ?_
    (repeat first | exact trivial | refine ent1 ?_)
    refine ⟨fun j hj => eqC_win0 (fun i hi => ?_) j, trivial⟩
    have := app_row (l := []) (m := s.l) (f := nthC []) rfl rfl (fun i hi => absurd hi (by simp)) hg i (by simpa using hi)
    exact this
theorem sn_part {s : Sl} (hs : s.Ok) (hz : s.z = false) {z : Bool} (hzz : z = false) {h : List (List Seg)} {j m o' : Nat} {k : (Nat → SC) → Prop} (a : Nat) (hj : getH h j = svB s) (ho : o' = s.o + a) (hm : a + m ≤ s.l.length)
    (hk : ∀ g : Nat → SC, (∀ i, i < m → g i = .w8 (L s.l (a + i))) → k g) : ∃ f : Nat → SC, ((z = true → m = 0) ∧ (z = false → SnAt h j 0 o' m 1 f)) ∧ k f := by
  refine ⟨fun i => .w8 (L s.l (a + i)), ⟨(fun h => by rw [hzz] at h; cases h), fun _ => ?_⟩, hk _ fun _ _ => rfl⟩
  have hf := hs.fit
  exact ⟨s.N, winF s.o s.l.length (L s.l), [], by rw [hj, svB_row hz]; rfl, by show o' + m ≤ s.N; omega, fun q hq => by
    have hq : q < m := hq
    rw [ho, show q + (s.o + a) = s.o + (a + q) by omega]; exact (winF_at _ _ _ (by omega)).symm⟩
set_option maxRecDepth 20000 in
set_option maxHeartbeats 4000000 in
theorem fn_sown (h : Hd) (ho : h.Ok) : FnR Tryz.prog tds 30 4 (hdB h) [.agg (hdC 0 1 2 3 h)] (fun _ => True)
    (fun y hs => ∃ g : Hd, g.Ok ∧ HdEq g h ∧ y = .a (.agg (hdC 4 5 6 7 g)) ∧ hs = hdB h ++ hdB g) := by
  refine fn_of_body tds_ok follows_ Tryz.func30 rfl (t := .a (.agg (hdC 0 1 2 3 h)) :: anys (Tryz.f30.ntmps - 1)) rfl (fun w r0 hr _ => ?_)
  obtain ⟨x0, x1, x2, x3, rfl⟩ := len4' hr
  (repeat first | refine And.intro (by omega) ?_ | refine And.intro (by decide) ?_ | (with_reducible refine frc_parts (by first | omega | decide) ?_) | (with_reducible refine frc_bytesL (by first | omega | decide) ?_) | refine And.intro rfl ?_)
  refine call_pad (fn_bclone h.t ho.t) [0] rfl (by (repeat first | exact trivial | refine ent1 ?_)) (eqC_bts trivial) (fun _ _ => trivial) ?_
  rintro x hs ⟨t, ht, et, rfl, rfl⟩
  (repeat first | refine And.intro (by omega) ?_ | refine And.intro (by decide) ?_ | (with_reducible refine frc_parts (by first | omega | decide) ?_) | (with_reducible refine frc_bytesL (by first | omega | decide) ?_) | refine And.intro rfl ?_)
  refine call_pad (fn_bclone h.f ho.f) [1] rfl (by (repeat first | exact trivial | refine ent1 ?_)) (eqC_bts trivial) (fun _ _ => trivial) ?_
  rintro x hs ⟨f, hf, ef, rfl, rfl⟩
  (repeat first | refine And.intro (by omega) ?_ | refine And.intro (by decide) ?_ | (with_reducible refine frc_parts (by first | omega | decide) ?_) | (with_reducible refine frc_bytesL (by first | omega | decide) ?_) | refine And.intro rfl ?_)
  refine call_pad (fn_bclone h.k ho.k) [2] rfl (by (repeat first | exact trivial | refine ent1 ?_)) (eqC_bts trivial) (fun _ _ => trivial) ?_
  rintro x hs ⟨k, hk, ek, rfl, rfl⟩
  (repeat first | refine And.intro (by omega) ?_ | refine And.intro (by decide) ?_ | (with_reducible refine frc_parts (by first | omega | decide) ?_) | (with_reducible refine frc_bytesL (by first | omega | decide) ?_) | refine And.intro rfl ?_)
  refine call_pad (fn_bclone h.n ho.n) [3] rfl (by (repeat first | exact trivial | refine ent1 ?_)) (eqC_bts trivial) (fun _ _ => trivial) ?_
  rintro x hs ⟨n, hn, en, rfl, rfl⟩
  (repeat first | refine And.intro (by omega) ?_ | refine And.intro (by decide) ?_ | (with_reducible refine frc_parts (by first | omega | decide) ?_) | (with_reducible refine frc_bytesL (by first | omega | decide) ?_) | refine And.intro rfl ?_)
  refine ⟨.a (.agg (hdC 4 5 6 7 ⟨h.sp, t, f, k, h.turn, n⟩)), _, ⟨[0, 1, 2, 3, 6, 7, 8, 9], ⟨rfl, rfl, rfl⟩, ?_⟩, ⟨h.sp, t, f, k, h.turn, n⟩, ⟨ht, hf, hk, hn⟩, ⟨rfl, rfl, et, ef, ek, en⟩, rfl, rfl⟩
  (repeat first | exact trivial | refine ent1 ?_)
  refine eqC_bts (eqC_bts (eqC_bts (eqC_bts ?_)))
  refine eqC_btsM (eqC_btsM (eqC_btsM (eqC_btsM ?_)))
  (repeat first | exact trivial | refine ent1 ?_)
theorem fn_hidden (sp : BitVec 8) : Fn Tryz.prog tds 28 [] [.c (.w8 sp)] (fun _ => True) (fun y hs => y = .a (.c (.w8 (hidB sp))) ∧ hs = []) := by
  refine fn_of_body tds_ok follows_ Tryz.func28 rfl (t := .a (.c (.w8 sp)) :: anys (Tryz.f28.ntmps - 1)) rfl (fun w r0 hr _ => ?_)
  obtain rfl : r0 = [] := List.eq_nil_of_length_eq_zero hr
  by_cases h0 : sp = 2#8
  · have e0 : decide (sp = 2#8) = true := decide_eq_true h0
    (repeat first | refine And.intro (by omega) ?_ | refine And.intro (by decide) ?_ | refine And.intro rfl ?_ | refine And.intro (fun _ => ?_) (fun h => Bool.noConfusion h) | refine And.intro (fun h => Bool.noConfusion h) (fun _ => ?_) | refine And.intro (fun _ => ?_) (fun h => absurd h (by rw [e0]; decide)) | refine And.intro (fun h => absurd h (by rw [e0]; decide)) (fun _ => ?_))
    refine ⟨.a (.c (.w8 (hidB sp))), [], ⟨[], ⟨rfl, rfl, rfl⟩, ?_⟩, rfl, rfl⟩
    exact ⟨show (31#8 : BitVec 8) = hidB sp by unfold hidB; rw [if_pos h0], trivial⟩
  · have e0 : decide (sp = 2#8) = false := decide_eq_false h0
    (repeat first | refine And.intro (by omega) ?_ | refine And.intro (by decide) ?_ | refine And.intro rfl ?_ | refine And.intro (fun _ => ?_) (fun h => Bool.noConfusion h) | refine And.intro (fun h => Bool.noConfusion h) (fun _ => ?_) | refine And.intro (fun _ => ?_) (fun h => absurd h (by rw [e0]; decide)) | refine And.intro (fun h => absurd h (by rw [e0]; decide)) (fun _ => ?_))
    refine ⟨.a (.c (.w8 (hidB sp))), [], ⟨[], ⟨rfl, rfl, rfl⟩, ?_⟩, rfl, rfl⟩
    exact ⟨show (15#8 : BitVec 8) = hidB sp by unfold hidB; rw [if_neg h0], trivial⟩
set_option maxRecDepth 20000 in
theorem fn_kmask (cnt : Int) (kh K2 R x : Nat → BitVec 8) (hK2 : pKeys kh = K2) (hR : pTurn kh x = R) (hc : 0 ≤ cnt ∧ cnt ≤ 900000000) :
    FnR Tryz.prog tds 51 1 [[.row 32 fun _ => .any, .one .any, .row 12 fun _ => .any, .one (.p 2 0 0)], tabs 1 0 boxes cnt, keyD 1 K2] [.c (.p 0 0 0), blk x] (fun _ => True)
      (fun y hs => y = .a (.agg [.row 5 fun i => .w8 (R i)]) ∧ hs = [[.row 32 fun _ => .any, .one .any, .row 12 fun _ => .any, .one (.p 2 0 0)], tabs 1 0 boxes (cnt + 1), keyD 1 K2]) := by
  refine fn_of_body tds_ok follows_ Tryz.func51 rfl (t := .a (.c (.p 0 0 0)) :: .a (blk x) :: anys (Tryz.f51.ntmps - 2)) rfl (fun w r0 hr _ => ?_)
  obtain ⟨x0, x1, x2, rfl⟩ := len3' hr
  (repeat first | refine And.intro (by omega) ?_ | refine And.intro (by decide) ?_ | refine And.intro rfl ?_ | refine And.intro (fun _ => ?_) (fun h => Bool.noConfusion h) | refine And.intro (fun h => Bool.noConfusion h) (fun _ => ?_) | (with_reducible refine frc_bytesL (by first | omega | decide) ?_) | (with_reducible refine frc_bytesM (by first | omega | decide) ?_) | (with_reducible refine frc_parts (by first | omega | decide) ?_))
  refine ⟨some [0, 3], [6], [(0, true), (1, true), (2, true), (3, true), (4, true), (5, false), (6, false)], [7], by kernel_rfl, ?_⟩
  (repeat first | refine And.intro (by omega) ?_ | refine And.intro (by decide) ?_ | (with_reducible refine frc_parts (by first | omega | decide) ?_) | (with_reducible refine frc_bytesL (by first | omega | decide) ?_) | refine And.intro rfl ?_)
  refine call_same (fn_turn' cnt kh x K2 R hK2 hR (by omega)) [1, 2] rfl (by (repeat first | exact trivial | refine ent1 ?_)) (by (repeat first | exact trivial | refine ent1 ?_)) (fun _ _ => trivial) ?_
  rintro y hs' ⟨rfl, rfl⟩
  (repeat first | refine And.intro (by omega) ?_ | refine And.intro (by decide) ?_ | (with_reducible refine frc_parts (by first | omega | decide) ?_) | (with_reducible refine frc_bytesL (by first | omega | decide) ?_) | refine And.intro rfl ?_)
  refine ⟨none, [], [(0, true), (1, true)], [2], by kernel_rfl, ?_⟩
  (repeat first | refine And.intro (by omega) ?_ | refine And.intro (by decide) ?_ | (with_reducible refine frc_parts (by first | omega | decide) ?_) | (with_reducible refine frc_bytesL (by first | omega | decide) ?_) | refine And.intro rfl ?_)
  refine ⟨.a (.agg [.row 5 fun i => .w8 (R i)]), _, ⟨[0, 1, 2], ⟨rfl, rfl, rfl⟩, ?_⟩, rfl, rfl⟩
  (repeat first | exact trivial | refine ent1 ?_)
  refine ⟨fun j hj => eqC_w8 ?_, ?_⟩
  · show updN (fun _ => SC.w8 0) 0 (min 16 5) _ j = SC.w8 (R j)
    unfold updN
    rw [if_pos ⟨Nat.zero_le _, by have : min 16 5 = 5 := rfl; omega⟩]
    rfl
  (repeat first | exact trivial | refine ent1 ?_)
/-- A secret's keys, as they lie in a packet's functions: sealer and hide by name. -/
abbrev kyV (i j : Nat) (iv : Nat → BitVec 8) : List Seg := [.row 32 fun _ => .any, .one (.p i 0 0), .row 12 fun i => .w8 (iv i), .one (.p j 0 0)]
def smpB (b : Bs) (at_ : Nat) (i : Nat) : BitVec 8 := L b (at_ + 4 + i)
set_option maxRecDepth 20000 in
set_option maxHeartbeats 4000000 in
theorem fn_maskOf (s : Sl) (hs : s.Ok) (at_ : Nat) (ha : at_ + 20 ≤ s.l.length) (cnt : Int) (kh K2 R : Nat → BitVec 8) (hK2 : pKeys kh = K2) (hR : pTurn kh (smpB s.l at_) = R) (hc : 0 ≤ cnt ∧ cnt ≤ 900000000) :
    FnR Tryz.prog tds 27 2 [svB s, [.row 32 fun _ => .any, .one .any, .row 12 fun _ => .any, .one (.p 3 0 0)], tabs 1 0 boxes cnt, keyD 2 K2] [.c (.p 1 0 0), .c (svC 0 s), .c (.int .i64 (at_ : Nat))] (fun _ => True)
      (fun y hs' => y = .a (.agg [.row 5 fun i => .w8 (R i)]) ∧ hs' = [svB s, [.row 32 fun _ => .any, .one .any, .row 12 fun _ => .any, .one (.p 3 0 0)], tabs 1 0 boxes (cnt + 1), keyD 2 K2]) := by
  refine fn_of_body tds_ok follows_ Tryz.func27 rfl (t := .a (.c (.p 1 0 0)) :: .a (.c (svC 0 s)) :: .a (.c (.int .i64 (at_ : Nat))) :: anys (Tryz.f27.ntmps - 3)) rfl (fun w r0 hr _ => ?_)
  obtain ⟨x0, x1, x2, x3, rfl⟩ := len4' hr
  have hz := hs.pos (by omega)
  have hcp := hs.cap
  have hsm := hs.small
  (repeat first | refine And.intro (by omega) ?_ | refine And.intro (by decide) ?_ | (with_reducible refine frc_parts (by first | omega | decide) ?_) | (with_reducible refine frc_bytesL (by first | omega | decide) ?_) | refine And.intro rfl ?_)
  refine ⟨none, [], [(0, true), (1, true), (2, true), (3, true), (4, true), (5, true), (6, true)], [7], by kernel_rfl, ?_⟩
  (repeat first | refine And.intro (by omega) ?_ | refine And.intro (by decide) ?_ | (with_reducible refine frc_parts (by first | omega | decide) ?_) | (with_reducible refine frc_bytesL (by first | omega | decide) ?_) | refine And.intro rfl ?_)
  refine frcN_of (m := at_ + 4) (show ((at_ : Int) + 4).toNat = at_ + 4 by omega) ?_
  refine frcN_of (m := at_ + 20) (show ((at_ : Int) + 20).toNat = at_ + 20 by omega) ?_
  refine frcN_of (m := s.o + (at_ + 4)) (show (if s.c = at_ + 4 then s.o else s.o + (at_ + 4) * 1) = s.o + (at_ + 4) by rw [if_neg (by omega), Nat.mul_one]) ?_
  refine frcN_of (m := 16) (show at_ + 20 - (at_ + 4) = 16 by omega) ?_
  refine frcN_of (m := s.c - (at_ + 4)) rfl ?_
  refine sn_part hs hz hz (at_ + 4) rfl rfl (by omega) (fun g hg => ?_)
  refine ⟨(show 0 + min 16 16 ≤ 16 by decide), ?_⟩
  (repeat first | refine And.intro (by omega) ?_ | refine And.intro (by decide) ?_ | (with_reducible refine frc_parts (by first | omega | decide) ?_) | (with_reducible refine frc_bytesL (by first | omega | decide) ?_) | refine And.intro rfl ?_)
  refine call_same (fn_kmask cnt kh K2 R (smpB s.l at_) hK2 hR hc) [1, 2, 3] rfl ?_ (by (repeat first | exact trivial | refine ent1 ?_)) (fun _ _ => trivial) ?_
  · refine ⟨rfl, rfl, rfl, fun j hj => eqC_w8 ?_, trivial⟩
    show updN (fun _ => SC.w8 0) 0 (min 16 16) g j = SC.w8 (smpB s.l at_ j)
    unfold updN
    rw [if_pos ⟨Nat.zero_le _, by have : min 16 16 = 16 := rfl; omega⟩]
    exact hg j hj
  rintro y hs' ⟨rfl, rfl⟩
  (repeat first | refine And.intro (by omega) ?_ | refine And.intro (by decide) ?_ | (with_reducible refine frc_parts (by first | omega | decide) ?_) | (with_reducible refine frc_bytesL (by first | omega | decide) ?_) | refine And.intro rfl ?_)
  refine ⟨.a (.agg [.row 5 fun i => .w8 (R i)]), _, ⟨[0, 1, 2, 3], ⟨rfl, rfl, rfl⟩, ?_⟩, rfl, rfl⟩
  (repeat first | exact trivial | refine ent1 ?_)
  refine eqC_bts ?_
  (repeat first | exact trivial | refine ent1 ?_)
end Sx
end Go.Proofs.YtkjdkeolkigibaaGreat
end

section
/-
  Packets shown. No condition.
-/
namespace Go.Proofs.YtkjdkeolkigibaaGreat
set_option linter.unusedVariables false
namespace Sx
open Sha Vi Aes Gcm
set_option linter.unusedSimpArgs false
abbrev psI (a b c : Nat) (sp : BitVec 8) (t f k : Sl) (at_ en : Int) : List Seg := [.one (.w8 sp), .one (svC a t), .one (svC b f), .one (svC c k), .one (.bool false), .one (.slc none 0 0), .one (.int .i64 at_), .one (.int .i64 en)]
abbrev kyM (j : Nat) : List Seg := [.row 32 fun _ => .any, .one .any, .row 12 fun _ => .any, .one (.p j 0 0)]
theorem len7' {α : Type} : ∀ {l : List α}, l.length = 7 → ∃ a b c d e f g, l = [a, b, c, d, e, f, g]
  | [a, b, c, d, e, f, g], _ => ⟨a, b, c, d, e, f, g, rfl⟩
end Sx
end Go.Proofs.YtkjdkeolkigibaaGreat
end

section
/-
  Packets shown: what may be. No condition.
-/
namespace Go.Proofs.YtkjdkeolkigibaaGreat
set_option linter.unusedVariables false
namespace Sx
open Sha Vi Aes Gcm
set_option linter.unusedSimpArgs false
theorem many_le : ∀ x : BitVec 8, (x &&& 3#8).toNat < 4 := by decide +kernel
theorem mask_start {R : Nat → BitVec 8} {h : BitVec 8} {at_ o n x : Nat} {g : Nat → Nat} {l : Bs} {v : SC} (hl : l.length = n) (h0 : 0 < n) (hx : x = o) (hv : v = .w8 (L l 0 ^^^ (R 0 &&& h))) (i : Nat) (hi : i < n) : upd (fun j => SC.mp g (winF o n (L l) j)) x v (o + i) = .w8 (L (maskL R h at_ 0 l) i) := by
  rw [maskL_at (by omega)]
  unfold upd
  by_cases hi0 : i = 0
  · rw [if_pos (by omega), if_pos hi0, hv]
  · rw [if_neg (by omega), if_neg hi0, if_neg (by omega)]
    show SC.mp g (winF o n (L l) (o + i)) = _
    rw [winF_at _ _ _ hi]
    rfl
theorem mask_step {R : Nat → BitVec 8} {h : BitVec 8} {at_ k o n x : Nat} {l : Bs} {v : SC} (hl : l.length = n) (h0 : 1 ≤ at_) (hk : at_ + k < n) (hx : x = o + (at_ + k)) (hv : v = .w8 (L (maskL R h at_ k l) (at_ + k) ^^^ R (1 + k))) (i : Nat) (hi : i < n) : upd (winF o n (L (maskL R h at_ k l))) x v (o + i) = .w8 (L (maskL R h at_ (k + 1) l) i) := by
  rw [maskL_at (by omega)]
  unfold upd
  by_cases hi0 : i = at_ + k
  · rw [if_pos (by omega), hv, maskL_at (by omega), if_neg (by omega), if_neg (by omega), if_neg (by omega), if_pos (by omega), hi0, show at_ + k - at_ = k by omega]
  · rw [if_neg (by omega), winF_at _ _ _ hi, maskL_at (by omega)]
    by_cases h3 : i = 0
    · rw [if_pos h3, if_pos h3]
    · rw [if_neg h3, if_neg h3]
      by_cases h4 : at_ ≤ i ∧ i < at_ + k
      · rw [if_pos h4, if_pos (by omega)]
      · rw [if_neg h4, if_neg (by omega)]
set_option maxRecDepth 20000 in
set_option maxHeartbeats 8000000 in
theorem fn_shown (sp : BitVec 8) (T F K b : Sl) (hT : T.Ok) (hF : F.Ok) (hK : K.Ok) (hb : b.Ok) (at_ en : Nat) (h1 : 1 ≤ at_) (h2 : en ≤ b.l.length) (h3 : at_ + 20 ≤ en) (cnt : Int) (hc : 0 ≤ cnt ∧ cnt ≤ 900000000)
    (kh K2 R : Nat → BitVec 8) (hK2 : pKeys kh = K2) (hR : pTurn kh (smpB (b.l.take en) at_) = R) (f0 : BitVec 8) (hf0 : L b.l 0 ^^^ (R 0 &&& hidB sp) = f0) (sh : Bs) (hsh : maskL R (hidB sp) at_ (manyB f0) (b.l.take en) = sh) :
    FnR Tryz.prog tds 10 5 [svB T, svB F, svB K, svB b, kyM 6, tabs 1 0 boxes cnt, keyD 5 K2] [.c (.p 4 0 0), .agg (psI 0 1 2 sp T F K at_ en), .c (svC 3 b)] (fun _ => True)
      (fun y hs => (noneB sp f0 ≠ 0#8 → y = .tup [.c (.slc none 0 0), .agg hd0, .c (.int .i64 4)] ∧ hs = [svB T, svB F, svB K, svB b, kyM 6, tabs 1 0 boxes (cnt + 1), keyD 5 K2]) ∧
        (noneB sp f0 = 0#8 → ∃ (S : Sl) (g : Hd), S.Ok ∧ S.l = sh ∧ g.Ok ∧ g.sp = sp ∧ g.t.l = T.l ∧ g.f.l = F.l ∧ g.k.l = K.l ∧ g.turn = (if sp = 2#8 then decide (f0 &&& 4#8 ≠ 0#8) else false) ∧ g.n.l = (sh.drop at_).take (manyB f0) ∧
          y = .tup [.c (svC 7 S), .agg (hdC 8 9 10 11 g), .c (.int .i64 0)] ∧ hs = [svB T, svB F, svB K, svB b, kyM 6, tabs 1 0 boxes (cnt + 1), keyD 5 K2, svB S] ++ hdB g)) := by
  refine fn_of_body tds_ok follows_ Tryz.func10 rfl (t := .a (.c (.p 4 0 0)) :: .a (.agg (psI 0 1 2 sp T F K at_ en)) :: .a (.c (svC 3 b)) :: anys (Tryz.f10.ntmps - 3)) rfl (fun w r0 hr _ => ?_)
  obtain ⟨x0, x1, x2, x3, x4, x5, x6, rfl⟩ := len7' hr
  have hsm := hb.small
  have hbc := hb.cap
  have d1 : decide ((at_ : Int) < 1) = false := decide_eq_false (by omega)
  have d2 : decide ((b.l.length : Int) < (en : Int)) = false := decide_eq_false (by omega)
  have d3 : decide ((en : Int) < (at_ : Int)) = false := decide_eq_false (by omega)
  have d4 : decide ((en : Int) - (at_ : Int) < 20) = false := decide_eq_false (by omega)
  (repeat first | refine And.intro rfl ?_ | refine And.intro (fun _ => ?_) (fun h => absurd h (by rw [d1]; decide)) | refine And.intro (fun h => absurd h (by rw [d1]; decide)) (fun _ => ?_) | refine And.intro (fun _ => ?_) (fun h => absurd h (by rw [d2]; decide)) | refine And.intro (fun h => absurd h (by rw [d2]; decide)) (fun _ => ?_) | refine And.intro (fun _ => ?_) (fun h => absurd h (by rw [d3]; decide)) | refine And.intro (fun h => absurd h (by rw [d3]; decide)) (fun _ => ?_) | refine And.intro (fun _ => ?_) (fun h => absurd h (by rw [d4]; decide)) | refine And.intro (fun h => absurd h (by rw [d4]; decide)) (fun _ => ?_) | refine And.intro (fun _ => ?_) (fun h => Bool.noConfusion h) | refine And.intro (fun h => Bool.noConfusion h) (fun _ => ?_) | (with_reducible refine frc_bytesL (by first | omega | decide) ?_) | (with_reducible refine frc_bytesM (by first | omega | decide) ?_) | refine And.intro (by decide) ?_ | refine And.intro (by omega) ?_)
  have lm : (b.l.take en).length = en := by rw [List.length_take]; omega
  refine call_pad (fn_bclone (cutS b en) (cutS_ok hb _)) [3] rfl ?_ ((cutS_sub b _).ent trivial) (fun _ _ => trivial) ?_
  · exact ⟨rfl, (show (if b.c = 0 then b.o else b.o + 0 * 1) = b.o by split <;> simp), lm.symm, rfl, trivial⟩
  rintro x hs ⟨S, hS, hSl, rfl, rfl⟩
  have hSl : S.l = b.l.take en := hSl
  have hSn : S.l.length = en := by rw [hSl, lm]
  have hSz : S.z = false := hS.pos (by omega)
  have hSf := hS.fit
  have hSc := hS.cap
  (repeat first | refine And.intro rfl ?_ | refine And.intro (fun _ => ?_) (fun h => Bool.noConfusion h) | refine And.intro (fun h => Bool.noConfusion h) (fun _ => ?_) | (with_reducible refine frc_bytesL (by first | omega | decide) ?_) | (with_reducible refine frc_bytesM (by first | omega | decide) ?_) | refine And.intro (by decide) ?_ | refine And.intro (by omega) ?_)
  refine call_same (fn_maskOf S hS at_ (by omega) cnt kh K2 R hK2 (by rw [hSl]; exact hR) hc) [9, 4, 5, 6] rfl (by (repeat first | exact trivial | refine ent1 ?_)) ?_ (fun _ _ => trivial) ?_
  · refine eqC_btsM ?_
    (repeat first | exact trivial | refine ent1 ?_)
  rintro x hs ⟨rfl, rfl⟩
  rw [svB_row hSz]
  (repeat first | refine And.intro rfl ?_ | refine And.intro (fun _ => ?_) (fun h => Bool.noConfusion h) | refine And.intro (fun h => Bool.noConfusion h) (fun _ => ?_) | (with_reducible refine frc_bytesL (by first | omega | decide) ?_) | (with_reducible refine frc_bytesM (by first | omega | decide) ?_) | refine And.intro (by decide) ?_ | refine And.intro (by omega) ?_)
  refine ⟨some [7, 9, 10], [], [(0, true), (1, true), (2, true), (3, true), (4, true), (5, true), (6, true), (7, true), (8, false), (9, true), (10, true), (11, true)], [12], by kernel_rfl, ?_⟩
  (repeat first | refine And.intro rfl ?_ | refine And.intro (fun _ => ?_) (fun h => Bool.noConfusion h) | refine And.intro (fun h => Bool.noConfusion h) (fun _ => ?_) | (with_reducible refine frc_bytesL (by first | omega | decide) ?_) | (with_reducible refine frc_bytesM (by first | omega | decide) ?_) | refine And.intro (by decide) ?_ | refine And.intro (by omega) ?_)
  refine frc_winM 0 rfl (show 0 < S.l.length by omega) ?_
  (repeat first | refine And.intro rfl ?_ | refine And.intro (fun _ => ?_) (fun h => Bool.noConfusion h) | refine And.intro (fun h => Bool.noConfusion h) (fun _ => ?_) | (with_reducible refine frc_bytesL (by first | omega | decide) ?_) | (with_reducible refine frc_bytesM (by first | omega | decide) ?_) | refine And.intro (by decide) ?_ | refine And.intro (by omega) ?_)
  refine call_same (fn_hidden sp) [] rfl (by (repeat first | exact trivial | refine ent1 ?_)) trivial (fun _ _ => trivial) ?_
  rintro x hs ⟨rfl, rfl⟩
  (repeat first | refine And.intro rfl ?_ | refine And.intro (fun _ => ?_) (fun h => Bool.noConfusion h) | refine And.intro (fun h => Bool.noConfusion h) (fun _ => ?_) | (with_reducible refine frc_bytesL (by first | omega | decide) ?_) | (with_reducible refine frc_bytesM (by first | omega | decide) ?_) | refine And.intro (by decide) ?_ | refine And.intro (by omega) ?_)
  have e0 : L S.l 0 ^^^ (R (Int.toNat 0 + 0) &&& hidB sp) = f0 := by rw [hSl, L_take _ _ _ (by omega)]; exact hf0
  refine frc_eq (y := .w8 f0) (by unfold upd; rw [if_pos rfl, e0]) ?_
  have hm4 : manyB f0 ≤ 4 := many_le f0
  have hm1 : 1 ≤ manyB f0 := Nat.le_add_left _ _
  obtain ⟨m, hm⟩ : ∃ m, manyB f0 = m := ⟨_, rfl⟩
  have hmI : ((f0 &&& 3#8).toNat : Int) + 1 = (m : Int) := by rw [← hm]; rfl
  (repeat first | refine And.intro rfl ?_ | refine And.intro (fun _ => ?_) (fun h => Bool.noConfusion h) | refine And.intro (fun h => Bool.noConfusion h) (fun _ => ?_) | (with_reducible refine frc_bytesL (by first | omega | decide) ?_) | (with_reducible refine frc_bytesM (by first | omega | decide) ?_) | refine And.intro (by decide) ?_ | refine And.intro (by omega) ?_)
  refine .inl ⟨Nat, fun k => ⟨[.any, .any, .any, .any, .a (.c (.p 7 0 0)), .any, .any, .a (.c (.p 8 0 0)), .any, .a (.c (svC 9 S)), .a (.c (.p 10 0 0)), .any, .any, .any, .any, .any, .any, .any, .any, .any, .any, .any, .any, .any, .any, .any, .any, .any, .any, .any, .any, .any, .any, .any, .any, .any, .any, .any, .any, .any, .any, .any, .any, .any, .any, .any, .any, .any, .any, .any, .any, .any, .any, .any, .any, .any, .any, .any, .any, .any, .any, .any, .any, .any, .any, .any, .any, .any, .any, .any, .any, .any, .a (.c (.int .i64 (↑m))), .a (.c (.int .i64 (↑k))), .any, .any, .any, .any, .any, .any, .any, .any, .any, .any, .any, .any, .any, .any, .any, .any, .any, .any, .any, .any, .any, .any, .any, .any, .any, .any, .any, .any, .any, .any, .any, .any, .any, .any, .any], [svB T, svB F, svB K, svB b, kyM 6, tabs 1 0 boxes (cnt + 1), keyD 5 K2, psI 0 1 2 sp T F K at_ en, hd0, [.row S.N (winF S.o S.l.length (L (maskL R (hidB sp) at_ k S.l)))], [.row 5 fun i => .w8 (R i)]]⟩, fun k => k ≤ m, fun k => m - k, ⟨0, [0, 1, 2, 3, 4, 5, 6, 7, 8, 9, 10], ⟨⟨rfl, rfl, rfl⟩, ?_⟩, by omega⟩, fun k hk => ⟨fun h => ?_, fun h => ?_⟩⟩
  · (repeat first | exact trivial | refine ent1 ?_)
    refine eqC_bts (eqC_bts (eqC_bts (eqC_bts ?_)))
    (repeat first | exact trivial | refine ent1 ?_)
    refine ⟨fun j hj => eqC_win (fun i hi => mask_start rfl (by omega) (Nat.zero_add _) rfl i hi) j, ?_⟩
    (repeat first | exact trivial | refine ent1 ?_)
  · have hlt : k < m := by have : (k : Int) < (m : Int) := of_decide_eq_true h; omega
    (repeat first | refine And.intro rfl ?_ | refine And.intro (fun _ => ?_) (fun h => Bool.noConfusion h) | refine And.intro (fun h => Bool.noConfusion h) (fun _ => ?_) | (with_reducible refine frc_bytesL (by first | omega | decide) ?_) | (with_reducible refine frc_bytesM (by first | omega | decide) ?_) | refine And.intro (by decide) ?_ | refine And.intro (by omega) ?_)
    refine ⟨some [7, 9, 10], [], [(0, true), (1, true), (2, true), (3, true), (4, true), (5, true), (6, true), (7, true), (8, true), (9, true), (10, true), (11, true), (12, true)], [13], by kernel_rfl, ?_⟩
    (repeat first | refine And.intro rfl ?_ | refine And.intro (fun _ => ?_) (fun h => Bool.noConfusion h) | refine And.intro (fun h => Bool.noConfusion h) (fun _ => ?_) | (with_reducible refine frc_bytesL (by first | omega | decide) ?_) | (with_reducible refine frc_bytesM (by first | omega | decide) ?_) | refine And.intro (by decide) ?_ | refine And.intro (by omega) ?_)
    with_reducible refine frc_winA (at_ + k) (show ((at_ : Int) + (k : Int)).toNat + S.o = at_ + k + S.o by omega) (by omega) ?_
    (repeat first | refine And.intro rfl ?_ | refine And.intro (fun _ => ?_) (fun h => Bool.noConfusion h) | refine And.intro (fun h => Bool.noConfusion h) (fun _ => ?_) | (with_reducible refine frc_bytesL (by first | omega | decide) ?_) | (with_reducible refine frc_bytesM (by first | omega | decide) ?_) | refine And.intro (by decide) ?_ | refine And.intro (by omega) ?_)
    refine ⟨k + 1, [0, 1, 2, 3, 4, 5, 6, 7, 8, 9, 10], ⟨⟨rfl, rfl, rfl⟩, ?_⟩, by dsimp only; omega, by dsimp only; omega⟩
    (repeat first | exact trivial | refine ent1 ?_)
    refine eqC_bts (eqC_bts (eqC_bts (eqC_bts ?_)))
    (repeat first | exact trivial | refine ent1 ?_)
    refine ⟨fun j hj => eqC_win (fun i hi => mask_step rfl h1 (by omega) (show ((at_ : Int) + (k : Int)).toNat + S.o = S.o + (at_ + k) by omega) (by rw [show 1 + k = (1 + (k : Int)).toNat + 0 by omega]) i hi) j, ?_⟩
    (repeat first | exact trivial | refine ent1 ?_)
  · obtain rfl : k = m := by have : ¬ (k : Int) < (m : Int) := of_decide_eq_false h; have hk : k ≤ m := hk; omega
    have hB : maskL R (hidB sp) at_ k S.l = sh := by rw [hSl, ← hsh, hm]
    have hsl : sh.length = en := by rw [← hB, maskL_len, hSn]
    rw [hB]
    have hs0 : L sh 0 = f0 := by rw [← hB, maskL_at (by omega), if_pos rfl]; exact e0
    refine ⟨some [7, 9], [12], [(0, true), (1, true), (2, true), (3, true), (4, true), (5, true), (6, true), (7, true), (8, false), (9, true), (10, true), (11, true), (12, false)], [13, 14], by kernel_rfl, ?_⟩
    (repeat first | refine And.intro rfl ?_ | refine And.intro (fun _ => ?_) (fun h => Bool.noConfusion h) | refine And.intro (fun h => Bool.noConfusion h) (fun _ => ?_) | (with_reducible refine frc_bytesL (by first | omega | decide) ?_) | (with_reducible refine frc_bytesM (by first | omega | decide) ?_) | refine And.intro (by decide) ?_ | refine And.intro (by omega) ?_)
    with_reducible refine frc_winA 0 rfl (by omega) ?_
    rw [hs0]
    (repeat first | refine And.intro rfl ?_ | refine And.intro (fun _ => ?_) (fun h => Bool.noConfusion h) | refine And.intro (fun h => Bool.noConfusion h) (fun _ => ?_) | (with_reducible refine frc_bytesL (by first | omega | decide) ?_) | (with_reducible refine frc_bytesM (by first | omega | decide) ?_) | refine And.intro (by decide) ?_ | refine And.intro (by omega) ?_)
    have ld : (sh.drop at_).length = en - at_ := by rw [List.length_drop, hsl]
    have oD : Sl.Ok ⟨S.z, S.N, S.o + at_, S.c - at_, sh.drop at_⟩ := ⟨(by show S.o + at_ + (sh.drop at_).length ≤ S.N; omega), (by show (sh.drop at_).length ≤ S.c - at_; omega), (fun h => by rw [hSz] at h; cases h), (by show (sh.drop at_).length ≤ 1000000; omega)⟩
    refine call_same (fn_numbered sp f0 T F K ⟨S.z, S.N, S.o + at_, S.c - at_, sh.drop at_⟩ at_ en hT hF hK oD) [0, 1, 2, 9] rfl ?_ ?_ (fun _ _ => trivial) ?_
    · (repeat first | exact trivial | refine ent1 ?_)
      exact ⟨(show (if S.c = at_ then S.o else S.o + at_ * 1) = S.o + at_ by rw [if_neg (by omega), Nat.mul_one]), (show S.l.length - at_ = (sh.drop at_).length by omega), rfl, trivial⟩
    · refine eqC_bts (eqC_bts (eqC_bts ?_))
      rw [svB_row (s := ⟨S.z, S.N, S.o + at_, S.c - at_, sh.drop at_⟩) hSz]
      refine ⟨rfl, fun j hj => eqC_win (fun q hq => ?_) j, trivial⟩
      have hq : q < en - at_ := by rw [← ld]; exact hq
      have := winF_at S.o S.l.length (L sh) (i := at_ + q) (by omega)
      rw [← Nat.add_assoc] at this
      rw [this, L_drop]
    rintro x hs' ⟨-, hno, hyes⟩
    rw [hm] at hno hyes
    by_cases hn : noneB sp f0 = 0#8
    rotate_left
    · obtain ⟨rfl, rfl⟩ := hno (by show k ≤ (sh.drop at_).length; omega) hn
      (repeat first | refine And.intro rfl ?_ | refine And.intro (fun _ => ?_) (fun h => Bool.noConfusion h) | refine And.intro (fun h => Bool.noConfusion h) (fun _ => ?_) | (with_reducible refine frc_bytesL (by first | omega | decide) ?_) | (with_reducible refine frc_bytesM (by first | omega | decide) ?_) | refine And.intro (by decide) ?_ | refine And.intro (by omega) ?_)
      refine ⟨.tup [.c (.slc none 0 0), .agg hd0, .c (.int .i64 4)], _, ⟨[0, 1, 2, 3, 4, 5, 6], ⟨rfl, rfl, rfl⟩, ?_⟩, fun _ => ⟨rfl, rfl⟩, fun h => absurd h hn⟩
      (repeat first | exact trivial | refine ent1 ?_)
      refine eqC_bts (eqC_bts (eqC_bts (eqC_bts ?_)))
      (repeat first | exact trivial | refine ent1 ?_)
    · obtain ⟨g, hg, g1, g2, g3, g4, g5, g6, rfl, rfl⟩ := hyes (by show k ≤ (sh.drop at_).length; omega) hn
      (repeat first | refine And.intro rfl ?_ | refine And.intro (fun _ => ?_) (fun h => Bool.noConfusion h) | refine And.intro (fun h => Bool.noConfusion h) (fun _ => ?_) | (with_reducible refine frc_bytesL (by first | omega | decide) ?_) | (with_reducible refine frc_bytesM (by first | omega | decide) ?_) | refine And.intro (by decide) ?_ | refine And.intro (by omega) ?_)
      refine call_same (fn_sown g hg) [11, 12, 13, 14] rfl (by (repeat first | exact trivial | refine ent1 ?_)) ?_ (fun _ _ => trivial) ?_
      · refine eqC_btsM (eqC_btsM (eqC_btsM (eqC_btsM ?_)))
        (repeat first | exact trivial | refine ent1 ?_)
      rintro x hs' ⟨g', hg', hq, rfl, rfl⟩
      (repeat first | refine And.intro rfl ?_ | refine And.intro (fun _ => ?_) (fun h => Bool.noConfusion h) | refine And.intro (fun h => Bool.noConfusion h) (fun _ => ?_) | (with_reducible refine frc_bytesL (by first | omega | decide) ?_) | (with_reducible refine frc_bytesM (by first | omega | decide) ?_) | refine And.intro (by decide) ?_ | refine And.intro (by omega) ?_)
      refine ⟨.tup [.c (svC 7 ⟨S.z, S.N, S.o, S.c, sh⟩), .agg (hdC 8 9 10 11 g'), .c (.int .i64 0)], [svB T, svB F, svB K, svB b, kyM 6, tabs 1 0 boxes (cnt + 1), keyD 5 K2, svB ⟨S.z, S.N, S.o, S.c, sh⟩] ++ hdB g', ⟨[0, 1, 2, 3, 4, 5, 6, 9, 16, 17, 18, 19], ⟨rfl, rfl, rfl⟩, ?_⟩, fun h => absurd hn h, fun _ => ⟨⟨S.z, S.N, S.o, S.c, sh⟩, g', ⟨(by show S.o + sh.length ≤ S.N; omega), (by show sh.length ≤ S.c; omega), (fun h => by rw [hSz] at h; cases h), (by show sh.length ≤ 1000000; omega)⟩, rfl, hg', hq.sp.trans g1, hq.t.trans g2, hq.f.trans g3, hq.k.trans g4, hq.turn.trans g5, (hq.n.trans g6).trans (by rw [hm]), rfl, rfl⟩⟩
      (repeat first | exact trivial | refine ent1 ?_)
      refine ⟨(show S.l.length = sh.length by omega), rfl, ?_⟩
      (repeat first | exact trivial | refine ent1 ?_)
      refine eqC_bts (eqC_bts (eqC_bts (eqC_bts ?_)))
      rw [svB_row (s := ⟨S.z, S.N, S.o, S.c, sh⟩) hSz]
      (repeat first | exact trivial | refine ent1 ?_)
      refine ⟨fun j hj => eqC_win (fun i hi => winF_at S.o S.l.length (L sh) (by have hi : i < sh.length := hi; omega)) j, ?_⟩
      refine eqC_btsM (eqC_btsM (eqC_btsM (eqC_btsM ?_)))
      (repeat first | exact trivial | refine ent1 ?_)
end Sx
end Go.Proofs.YtkjdkeolkigibaaGreat
end

section
/-
  Packets shown by a header that has a number already. No condition.
-/
namespace Go.Proofs.YtkjdkeolkigibaaGreat
set_option linter.unusedVariables false
namespace Sx
open Sha Vi Aes Gcm
set_option linter.unusedSimpArgs false
end Sx
end Go.Proofs.YtkjdkeolkigibaaGreat
end

section
/-
  Packets' numbers, made whole. No condition.
-/
namespace Go.Proofs.YtkjdkeolkigibaaGreat
set_option linter.unusedVariables false
namespace Vi
open Sha
theorem or_byte (a : BitVec 64) (c : BitVec 8) (h : a.toNat < 72057594037927936) : (a <<< 8 ||| c.setWidth 64).toNat = a.toNat * 256 + c.toNat := by
  have hc := c.isLt
  rw [BitVec.toNat_or, BitVec.toNat_shiftLeft, BitVec.toNat_setWidth, Nat.mod_eq_of_lt (b := 2 ^ 64) (by rw [Nat.shiftLeft_eq]; omega), Nat.mod_eq_of_lt (by omega), ← Nat.shiftLeft_add_eq_or_of_lt (by omega), Nat.shiftLeft_eq]
theorem nof (N : BitVec 64) : N = BitVec.ofNat 64 N.toNat := BitVec.eq_of_toNat_eq (by rw [BitVec.toNat_ofNat, Nat.mod_eq_of_lt N.isLt])
def nearB (e : BitVec 64) (l : Bs) : BitVec 64 := l.foldl (fun a c => a <<< 8 ||| c.setWidth 64) e
theorem near_bv : ∀ (l : Bs) (e : BitVec 64), (e.toNat + 1) * 256 ^ l.length ≤ 4611686018427387904 → (nearB e l).toNat = nearN e.toNat l
  | [], _, _ => rfl
  | c :: r, e, h => by
    have hp : 0 < 256 ^ r.length := Nat.pow_pos (by decide)
    have hc := c.isLt
    have h2 : (e.toNat + 1) * 256 * 256 ^ r.length ≤ 4611686018427387904 := by
      rw [List.length_cons, Nat.pow_succ] at h
      rw [Nat.mul_assoc, Nat.mul_comm 256]; exact h
    have h1 : (e.toNat + 1) * 256 ≤ 4611686018427387904 := Nat.le_trans (Nat.le_mul_of_pos_right _ hp) h2
    have e1 := or_byte e c (by omega)
    have := near_bv r (e <<< 8 ||| c.setWidth 64) (by rw [e1]; exact Nat.le_trans (Nat.mul_le_mul_right _ (by omega)) h2)
    show (nearB (e <<< 8 ||| c.setWidth 64) r).toNat = nearN (e.toNat * 256 + c.toNat) r
    rw [this, e1]
theorem near_snoc (e : BitVec 64) {l : Bs} {k : Nat} (h : k < l.length) : nearB e (l.take (k + 1)) = nearB e (l.take k) <<< 8 ||| (L l k).setWidth 64 := by
  unfold nearB
  rw [List.take_succ_eq_append_getElem h, List.foldl_append, L_lt h]
  rfl
theorem whole_bv {n W e : BitVec 64} {w : Nat} (hW : W.toNat = w) (hw : w = 256 ∨ w = 65536 ∨ w = 16777216 ∨ w = 4294967296) (hn : n.toNat < 4611686018427387904) (he : e.toNat < 4611686018427387904) :
    ((n + W / 2#64 ≤ e ↔ n.toNat + w / 2 ≤ e.toNat) ∧ (n < 4611686018427387904#64 - W ↔ n.toNat < 4611686018427387904 - w)) ∧ ((e + W / 2#64 < n ↔ e.toNat + w / 2 < n.toNat) ∧ (W ≤ n ↔ w ≤ n.toNat)) ∧
      n + W = BitVec.ofNat 64 (n.toNat + w) ∧ (w ≤ n.toNat → n - W = BitVec.ofNat 64 (n.toNat - w)) := by
  refine ⟨⟨?_, ?_⟩, ⟨?_, ?_⟩, ?_, fun hl => ?_⟩
  · rw [BitVec.le_def, BitVec.toNat_add, BitVec.toNat_udiv, hW, show (2#64).toNat = 2 from rfl]; omega
  · rw [BitVec.lt_def, BitVec.toNat_sub, hW, show (4611686018427387904#64).toNat = 4611686018427387904 from rfl]; omega
  · rw [BitVec.lt_def, BitVec.toNat_add, BitVec.toNat_udiv, hW, show (2#64).toNat = 2 from rfl]; omega
  · rw [BitVec.le_def, hW]
  · refine BitVec.eq_of_toNat_eq ?_
    rw [BitVec.toNat_add, BitVec.toNat_ofNat, hW]
  · refine BitVec.eq_of_toNat_eq ?_
    rw [BitVec.toNat_sub, BitVec.toNat_ofNat, hW]; omega
end Vi
namespace Sx
open Sha Vi
theorem win_len {n : Nat} (h1 : 1 ≤ n) (h4 : n ≤ 4) : (8#64 * BitVec.ofInt 64 (n : Int)).toNat = 8 * n ∧ (1#64 <<< (8 * n)).toNat = 256 ^ n ∧ (256 ^ n = 256 ∨ 256 ^ n = 65536 ∨ 256 ^ n = 16777216 ∨ 256 ^ n = 4294967296) := by
  have : n = 1 ∨ n = 2 ∨ n = 3 ∨ n = 4 := by omega
  rcases this with rfl | rfl | rfl | rfl <;> exact ⟨by decide, by decide, by decide⟩
set_option maxRecDepth 20000 in
set_option maxHeartbeats 4000000 in
theorem fn_pwhole (s : Sl) (hs : s.Ok) (g : Int) (hg : -9223372036854775808 ≤ g ∧ g ≤ 9223372036854775807) (h1 : 1 ≤ s.l.length) (h4 : s.l.length ≤ 4) : FnR Tryz.prog tds 31 1 [svB s] [.c (svC 0 s), .c (.int .i64 g)] (fun _ => True)
    (fun y hs' => y = (if 4611686018427387903 ≤ g then .tup [.c (.w64 0#64), .c (.int .i64 2)] else .tup [.c (.w64 (BitVec.ofNat 64 (wholeN s.l (g + 1).toNat))), .c (.int .i64 0)]) ∧ hs' = [svB s]) := by
  refine fn_of_body tds_ok follows_ Tryz.func31 rfl (t := .a (.c (svC 0 s)) :: .a (.c (.int .i64 g)) :: anys (Tryz.f31.ntmps - 2)) rfl (fun w r0 hr _ => ?_)
  obtain ⟨x0, rfl⟩ := List.length_eq_one_iff.1 hr
  have hz := hs.pos h1
  have hf := hs.fit
  rw [svB_row hz]
  obtain ⟨hW1, hW2, hW3⟩ := win_len h1 h4
  have d1 : decide ((s.l.length : Int) < 1) = false := decide_eq_false (by omega)
  have d2 : decide ((4 : Int) < (s.l.length : Int)) = false := decide_eq_false (by omega)
  by_cases hG : 4611686018427387903 ≤ g
  · have d3 : decide (4611686018427387903 ≤ g) = true := decide_eq_true hG
    (repeat first | refine And.intro rfl ?_ | refine And.intro (fun _ => ?_) (fun h => absurd h (by rw [d1]; decide)) | refine And.intro (fun h => absurd h (by rw [d1]; decide)) (fun _ => ?_) | refine And.intro (fun _ => ?_) (fun h => absurd h (by rw [d2]; decide)) | refine And.intro (fun h => absurd h (by rw [d2]; decide)) (fun _ => ?_) | refine And.intro (fun _ => ?_) (fun h => absurd h (by rw [d3]; decide)) | refine And.intro (fun h => absurd h (by rw [d3]; decide)) (fun _ => ?_) | refine And.intro (fun _ => ?_) (fun h => Bool.noConfusion h) | refine And.intro (fun h => Bool.noConfusion h) (fun _ => ?_) | (with_reducible refine frc_bytesL (by first | omega | decide) ?_) | (with_reducible refine frc_bytesM (by first | omega | decide) ?_) | refine And.intro (by decide) ?_ | refine And.intro (by omega) ?_)
    rw [if_pos hG]
    refine ⟨.tup [.c (.w64 0#64), .c (.int .i64 2)], _, ⟨[0], ⟨rfl, rfl, rfl⟩, ?_⟩, rfl, rfl⟩
    (repeat first | exact trivial | refine ent1 ?_)
  have d3 : decide (4611686018427387903 ≤ g) = false := decide_eq_false hG
  rw [if_neg hG]
  have hg1 : (g + 1).toNat < 4611686018427387904 := by omega
  by_cases h0 : 0 ≤ g
  · have d4 : decide (0 ≤ g) = true := decide_eq_true h0
    obtain ⟨W, hW⟩ : ∃ W, 1#64 <<< (8#64 * BitVec.ofInt 64 (s.l.length : Int)).toNat = W := ⟨_, rfl⟩
    have hWn : W.toNat = 256 ^ s.l.length := by rw [← hW, hW1, hW2]
    have hW0 : W ≠ 0#64 := fun q => by rw [q] at hWn; have : (0#64).toNat = 0 := rfl; omega
    have hEn : ((BitVec.ofInt 64 g + 1#64)).toNat = (g + 1).toNat := by rw [BitVec.toNat_add, BitVec.toNat_ofInt]; show ((g % ((2 ^ 64 : Nat) : Int)).toNat + 1) % 2 ^ 64 = _; omega
    (repeat first | refine And.intro rfl ?_ | refine And.intro (fun _ => ?_) (fun h => absurd h (by rw [d1]; decide)) | refine And.intro (fun h => absurd h (by rw [d1]; decide)) (fun _ => ?_) | refine And.intro (fun _ => ?_) (fun h => absurd h (by rw [d2]; decide)) | refine And.intro (fun h => absurd h (by rw [d2]; decide)) (fun _ => ?_) | refine And.intro (fun _ => ?_) (fun h => absurd h (by rw [d3]; decide)) | refine And.intro (fun h => absurd h (by rw [d3]; decide)) (fun _ => ?_) | refine And.intro (fun _ => ?_) (fun h => absurd h (by rw [d4]; decide)) | refine And.intro (fun h => absurd h (by rw [d4]; decide)) (fun _ => ?_) | refine And.intro (fun _ => ?_) (fun h => Bool.noConfusion h) | refine And.intro (fun h => Bool.noConfusion h) (fun _ => ?_) | (with_reducible refine frc_bytesL (by first | omega | decide) ?_) | (with_reducible refine frc_bytesM (by first | omega | decide) ?_) | refine And.intro (by decide) ?_ | refine And.intro (by omega) ?_)
    refine And.intro (show 1#64 <<< (8#64 * BitVec.ofInt 64 (s.l.length : Int)).toNat ≠ 0#64 by rw [hW]; exact hW0) ?_
    (repeat first | refine And.intro rfl ?_ | refine And.intro (fun _ => ?_) (fun h => absurd h (by rw [d1]; decide)) | refine And.intro (fun h => absurd h (by rw [d1]; decide)) (fun _ => ?_) | refine And.intro (fun _ => ?_) (fun h => absurd h (by rw [d2]; decide)) | refine And.intro (fun h => absurd h (by rw [d2]; decide)) (fun _ => ?_) | refine And.intro (fun _ => ?_) (fun h => absurd h (by rw [d3]; decide)) | refine And.intro (fun h => absurd h (by rw [d3]; decide)) (fun _ => ?_) | refine And.intro (fun _ => ?_) (fun h => absurd h (by rw [d4]; decide)) | refine And.intro (fun h => absurd h (by rw [d4]; decide)) (fun _ => ?_) | refine And.intro (fun _ => ?_) (fun h => Bool.noConfusion h) | refine And.intro (fun h => Bool.noConfusion h) (fun _ => ?_) | (with_reducible refine frc_bytesL (by first | omega | decide) ?_) | (with_reducible refine frc_bytesM (by first | omega | decide) ?_) | refine And.intro (by decide) ?_ | refine And.intro (by omega) ?_)
    refine .inl ⟨Nat, fun k => ⟨[.a (.c (svC 0 s)), .any, .any, .any, .any, .any, .a (.c (.w64 ((BitVec.ofInt 64 g + 1#64)))), .a (.c (.w64 (W))), .a (.c (.w64 ((W / 2#64)))), .a (.c (.w64 (nearB ((BitVec.ofInt 64 g + 1#64) / W) (s.l.take k)))), .any, .any, .any, .any, .any, .any, .any, .any, .any, .any, .any, .any, .any, .any, .any, .any, .any, .any, .any, .any, .any, .any, .any, .any, .any, .any, .any, .a (.c (svC 0 s)), .a (.c (.int .i64 (↑s.l.length))), .a (.c (.int .i64 (↑k))), .any, .any, .any, .any, .any, .any, .any, .any, .any, .any, .any, .any, .any, .any, .any, .any, .any, .any, .any, .any, .any, .any, .any, .any, .any, .any, .any, .any, .any, .any, .any, .any, .any, .any, .any, .any, .any, .any, .any], [[.row s.N (winF s.o s.l.length (L s.l))]]⟩, fun k => k ≤ s.l.length, fun k => s.l.length - k, ⟨0, [0], ⟨⟨rfl, rfl, rfl⟩, ?_⟩, by omega⟩, fun k hk => ⟨fun h => ?_, fun h => ?_⟩⟩
    · rw [hW]
      (repeat first | exact trivial | refine ent1 ?_)
    · have hlt : k < s.l.length := by have : (k : Int) < (s.l.length : Int) := of_decide_eq_true h; omega
      (repeat first | refine And.intro (by omega) ?_ | refine And.intro (by decide) ?_ | (with_reducible refine frc_parts (by first | omega | decide) ?_) | (with_reducible refine frc_bytesL (by first | omega | decide) ?_) | refine And.intro rfl ?_)
      with_reducible refine frc_winA k rfl hlt ?_
      (repeat first | refine And.intro (by omega) ?_ | refine And.intro (by decide) ?_ | (with_reducible refine frc_parts (by first | omega | decide) ?_) | (with_reducible refine frc_bytesL (by first | omega | decide) ?_) | refine And.intro rfl ?_)
      refine ⟨k + 1, [0], ⟨⟨rfl, rfl, rfl⟩, ?_⟩, by dsimp only; omega, by dsimp only; omega⟩
      (repeat first | exact trivial | refine ent1 ?_)
      refine ⟨(near_snoc _ hlt).symm, ?_⟩
      (repeat first | exact trivial | refine ent1 ?_)
    · obtain rfl : k = s.l.length := by have : ¬ (k : Int) < (s.l.length : Int) := of_decide_eq_false h; have hk : k ≤ s.l.length := hk; omega
      rw [List.take_length]
      obtain ⟨N, hN⟩ : ∃ N, nearB ((BitVec.ofInt 64 g + 1#64) / W) s.l = N := ⟨_, rfl⟩
      have hNn : N.toNat = nearN ((g + 1).toNat / 256 ^ s.l.length) s.l := by
        rw [← hN, near_bv _ _ (by rw [BitVec.toNat_udiv, hEn, hWn]; rcases hW3 with q | q | q | q <;> rw [q] <;> omega), BitVec.toNat_udiv, hEn, hWn]
      rw [hN]
      have hwh : wholeN s.l (g + 1).toNat = if N.toNat + 256 ^ s.l.length / 2 ≤ (g + 1).toNat ∧ N.toNat < 4611686018427387904 - 256 ^ s.l.length then N.toNat + 256 ^ s.l.length else if (g + 1).toNat + 256 ^ s.l.length / 2 < N.toNat ∧ 256 ^ s.l.length ≤ N.toNat then N.toNat - 256 ^ s.l.length else N.toNat := by unfold wholeN; rw [← hNn]
      have hNb : N.toNat < 4611686018427387904 := by rw [hNn]; exact near_le h1 h4 hg1
      obtain ⟨⟨q1, q2⟩, ⟨q3, q4⟩, q5, q6⟩ := whole_bv (n := N) (W := W) (e := (BitVec.ofInt 64 g + 1#64)) hWn hW3 hNb (by rw [hEn]; exact hg1)
      rw [hEn] at q1 q3
      by_cases a0 : N + W / 2#64 ≤ (BitVec.ofInt 64 g + 1#64)
      · have t0 : decide (N + W / 2#64 ≤ (BitVec.ofInt 64 g + 1#64)) = true := decide_eq_true a0
        by_cases a1 : N < 4611686018427387904#64 - W
        · have t1 : decide (N < 4611686018427387904#64 - W) = true := decide_eq_true a1
          (repeat first | refine And.intro rfl ?_ | refine And.intro (fun _ => ?_) (fun h => absurd h (by rw [d1]; decide)) | refine And.intro (fun h => absurd h (by rw [d1]; decide)) (fun _ => ?_) | refine And.intro (fun _ => ?_) (fun h => absurd h (by rw [d2]; decide)) | refine And.intro (fun h => absurd h (by rw [d2]; decide)) (fun _ => ?_) | refine And.intro (fun _ => ?_) (fun h => absurd h (by rw [d3]; decide)) | refine And.intro (fun h => absurd h (by rw [d3]; decide)) (fun _ => ?_) | refine And.intro (fun _ => ?_) (fun h => absurd h (by rw [d4]; decide)) | refine And.intro (fun h => absurd h (by rw [d4]; decide)) (fun _ => ?_) | refine And.intro (fun _ => ?_) (fun h => absurd h (by rw [t0]; decide)) | refine And.intro (fun h => absurd h (by rw [t0]; decide)) (fun _ => ?_) | refine And.intro (fun _ => ?_) (fun h => absurd h (by rw [t1]; decide)) | refine And.intro (fun h => absurd h (by rw [t1]; decide)) (fun _ => ?_) | refine And.intro (fun _ => ?_) (fun h => Bool.noConfusion h) | refine And.intro (fun h => Bool.noConfusion h) (fun _ => ?_) | (with_reducible refine frc_bytesL (by first | omega | decide) ?_) | (with_reducible refine frc_bytesM (by first | omega | decide) ?_) | refine And.intro (by decide) ?_ | refine And.intro (by omega) ?_)
          refine ⟨.tup [.c (.w64 (BitVec.ofNat 64 (wholeN s.l (g + 1).toNat))), .c (.int .i64 0)], _, ⟨[0], ⟨rfl, rfl, rfl⟩, ?_⟩, rfl, rfl⟩
          refine ⟨show N + W = BitVec.ofNat 64 (wholeN s.l (g + 1).toNat) by rw [hwh, if_pos ⟨q1.1 a0, q2.1 a1⟩]; exact q5, ?_⟩
          (repeat first | exact trivial | refine ent1 ?_)
        · have t1 : decide (N < 4611686018427387904#64 - W) = false := decide_eq_false a1
          have a2 : ¬ (BitVec.ofInt 64 g + 1#64) + W / 2#64 < N := fun h => by have := q3.1 h; have := q1.1 a0; omega
          have t2 : decide ((BitVec.ofInt 64 g + 1#64) + W / 2#64 < N) = false := decide_eq_false a2
          (repeat first | refine And.intro rfl ?_ | refine And.intro (fun _ => ?_) (fun h => absurd h (by rw [d1]; decide)) | refine And.intro (fun h => absurd h (by rw [d1]; decide)) (fun _ => ?_) | refine And.intro (fun _ => ?_) (fun h => absurd h (by rw [d2]; decide)) | refine And.intro (fun h => absurd h (by rw [d2]; decide)) (fun _ => ?_) | refine And.intro (fun _ => ?_) (fun h => absurd h (by rw [d3]; decide)) | refine And.intro (fun h => absurd h (by rw [d3]; decide)) (fun _ => ?_) | refine And.intro (fun _ => ?_) (fun h => absurd h (by rw [d4]; decide)) | refine And.intro (fun h => absurd h (by rw [d4]; decide)) (fun _ => ?_) | refine And.intro (fun _ => ?_) (fun h => absurd h (by rw [t0]; decide)) | refine And.intro (fun h => absurd h (by rw [t0]; decide)) (fun _ => ?_) | refine And.intro (fun _ => ?_) (fun h => absurd h (by rw [t1]; decide)) | refine And.intro (fun h => absurd h (by rw [t1]; decide)) (fun _ => ?_) | refine And.intro (fun _ => ?_) (fun h => absurd h (by rw [t2]; decide)) | refine And.intro (fun h => absurd h (by rw [t2]; decide)) (fun _ => ?_) | refine And.intro (fun _ => ?_) (fun h => Bool.noConfusion h) | refine And.intro (fun h => Bool.noConfusion h) (fun _ => ?_) | (with_reducible refine frc_bytesL (by first | omega | decide) ?_) | (with_reducible refine frc_bytesM (by first | omega | decide) ?_) | refine And.intro (by decide) ?_ | refine And.intro (by omega) ?_)
          refine ⟨.tup [.c (.w64 (BitVec.ofNat 64 (wholeN s.l (g + 1).toNat))), .c (.int .i64 0)], _, ⟨[0], ⟨rfl, rfl, rfl⟩, ?_⟩, rfl, rfl⟩
          refine ⟨show N = BitVec.ofNat 64 (wholeN s.l (g + 1).toNat) by rw [hwh, if_neg (fun h => a1 (q2.2 h.2)), if_neg (fun h => a2 (q3.2 h.1))]; exact nof N, ?_⟩
          (repeat first | exact trivial | refine ent1 ?_)
      have t0 : decide (N + W / 2#64 ≤ (BitVec.ofInt 64 g + 1#64)) = false := decide_eq_false a0
      by_cases a2 : (BitVec.ofInt 64 g + 1#64) + W / 2#64 < N
      · have t2 : decide ((BitVec.ofInt 64 g + 1#64) + W / 2#64 < N) = true := decide_eq_true a2
        by_cases a3 : W ≤ N
        · have t3 : decide (W ≤ N) = true := decide_eq_true a3
          (repeat first | refine And.intro rfl ?_ | refine And.intro (fun _ => ?_) (fun h => absurd h (by rw [d1]; decide)) | refine And.intro (fun h => absurd h (by rw [d1]; decide)) (fun _ => ?_) | refine And.intro (fun _ => ?_) (fun h => absurd h (by rw [d2]; decide)) | refine And.intro (fun h => absurd h (by rw [d2]; decide)) (fun _ => ?_) | refine And.intro (fun _ => ?_) (fun h => absurd h (by rw [d3]; decide)) | refine And.intro (fun h => absurd h (by rw [d3]; decide)) (fun _ => ?_) | refine And.intro (fun _ => ?_) (fun h => absurd h (by rw [d4]; decide)) | refine And.intro (fun h => absurd h (by rw [d4]; decide)) (fun _ => ?_) | refine And.intro (fun _ => ?_) (fun h => absurd h (by rw [t0]; decide)) | refine And.intro (fun h => absurd h (by rw [t0]; decide)) (fun _ => ?_) | refine And.intro (fun _ => ?_) (fun h => absurd h (by rw [t2]; decide)) | refine And.intro (fun h => absurd h (by rw [t2]; decide)) (fun _ => ?_) | refine And.intro (fun _ => ?_) (fun h => absurd h (by rw [t3]; decide)) | refine And.intro (fun h => absurd h (by rw [t3]; decide)) (fun _ => ?_) | refine And.intro (fun _ => ?_) (fun h => Bool.noConfusion h) | refine And.intro (fun h => Bool.noConfusion h) (fun _ => ?_) | (with_reducible refine frc_bytesL (by first | omega | decide) ?_) | (with_reducible refine frc_bytesM (by first | omega | decide) ?_) | refine And.intro (by decide) ?_ | refine And.intro (by omega) ?_)
          refine ⟨.tup [.c (.w64 (BitVec.ofNat 64 (wholeN s.l (g + 1).toNat))), .c (.int .i64 0)], _, ⟨[0], ⟨rfl, rfl, rfl⟩, ?_⟩, rfl, rfl⟩
          refine ⟨show N - W = BitVec.ofNat 64 (wholeN s.l (g + 1).toNat) by rw [hwh, if_neg (fun h => a0 (q1.2 h.1)), if_pos ⟨q3.1 a2, q4.1 a3⟩]; exact q6 (q4.1 a3), ?_⟩
          (repeat first | exact trivial | refine ent1 ?_)
        · have t3 : decide (W ≤ N) = false := decide_eq_false a3
          (repeat first | refine And.intro rfl ?_ | refine And.intro (fun _ => ?_) (fun h => absurd h (by rw [d1]; decide)) | refine And.intro (fun h => absurd h (by rw [d1]; decide)) (fun _ => ?_) | refine And.intro (fun _ => ?_) (fun h => absurd h (by rw [d2]; decide)) | refine And.intro (fun h => absurd h (by rw [d2]; decide)) (fun _ => ?_) | refine And.intro (fun _ => ?_) (fun h => absurd h (by rw [d3]; decide)) | refine And.intro (fun h => absurd h (by rw [d3]; decide)) (fun _ => ?_) | refine And.intro (fun _ => ?_) (fun h => absurd h (by rw [d4]; decide)) | refine And.intro (fun h => absurd h (by rw [d4]; decide)) (fun _ => ?_) | refine And.intro (fun _ => ?_) (fun h => absurd h (by rw [t0]; decide)) | refine And.intro (fun h => absurd h (by rw [t0]; decide)) (fun _ => ?_) | refine And.intro (fun _ => ?_) (fun h => absurd h (by rw [t2]; decide)) | refine And.intro (fun h => absurd h (by rw [t2]; decide)) (fun _ => ?_) | refine And.intro (fun _ => ?_) (fun h => absurd h (by rw [t3]; decide)) | refine And.intro (fun h => absurd h (by rw [t3]; decide)) (fun _ => ?_) | refine And.intro (fun _ => ?_) (fun h => Bool.noConfusion h) | refine And.intro (fun h => Bool.noConfusion h) (fun _ => ?_) | (with_reducible refine frc_bytesL (by first | omega | decide) ?_) | (with_reducible refine frc_bytesM (by first | omega | decide) ?_) | refine And.intro (by decide) ?_ | refine And.intro (by omega) ?_)
          refine ⟨.tup [.c (.w64 (BitVec.ofNat 64 (wholeN s.l (g + 1).toNat))), .c (.int .i64 0)], _, ⟨[0], ⟨rfl, rfl, rfl⟩, ?_⟩, rfl, rfl⟩
          refine ⟨show N = BitVec.ofNat 64 (wholeN s.l (g + 1).toNat) by rw [hwh, if_neg (fun h => a0 (q1.2 h.1)), if_neg (fun h => a3 (q4.2 h.2))]; exact nof N, ?_⟩
          (repeat first | exact trivial | refine ent1 ?_)
      have t2 : decide ((BitVec.ofInt 64 g + 1#64) + W / 2#64 < N) = false := decide_eq_false a2
      (repeat first | refine And.intro rfl ?_ | refine And.intro (fun _ => ?_) (fun h => absurd h (by rw [d1]; decide)) | refine And.intro (fun h => absurd h (by rw [d1]; decide)) (fun _ => ?_) | refine And.intro (fun _ => ?_) (fun h => absurd h (by rw [d2]; decide)) | refine And.intro (fun h => absurd h (by rw [d2]; decide)) (fun _ => ?_) | refine And.intro (fun _ => ?_) (fun h => absurd h (by rw [d3]; decide)) | refine And.intro (fun h => absurd h (by rw [d3]; decide)) (fun _ => ?_) | refine And.intro (fun _ => ?_) (fun h => absurd h (by rw [d4]; decide)) | refine And.intro (fun h => absurd h (by rw [d4]; decide)) (fun _ => ?_) | refine And.intro (fun _ => ?_) (fun h => absurd h (by rw [t0]; decide)) | refine And.intro (fun h => absurd h (by rw [t0]; decide)) (fun _ => ?_) | refine And.intro (fun _ => ?_) (fun h => absurd h (by rw [t2]; decide)) | refine And.intro (fun h => absurd h (by rw [t2]; decide)) (fun _ => ?_) | refine And.intro (fun _ => ?_) (fun h => Bool.noConfusion h) | refine And.intro (fun h => Bool.noConfusion h) (fun _ => ?_) | (with_reducible refine frc_bytesL (by first | omega | decide) ?_) | (with_reducible refine frc_bytesM (by first | omega | decide) ?_) | refine And.intro (by decide) ?_ | refine And.intro (by omega) ?_)
      refine ⟨.tup [.c (.w64 (BitVec.ofNat 64 (wholeN s.l (g + 1).toNat))), .c (.int .i64 0)], _, ⟨[0], ⟨rfl, rfl, rfl⟩, ?_⟩, rfl, rfl⟩
      refine ⟨show N = BitVec.ofNat 64 (wholeN s.l (g + 1).toNat) by rw [hwh, if_neg (fun h => a0 (q1.2 h.1)), if_neg (fun h => a2 (q3.2 h.1))]; exact nof N, ?_⟩
      (repeat first | exact trivial | refine ent1 ?_)
  have d4 : decide (0 ≤ g) = false := decide_eq_false h0
  obtain ⟨W, hW⟩ : ∃ W, 1#64 <<< (8#64 * BitVec.ofInt 64 (s.l.length : Int)).toNat = W := ⟨_, rfl⟩
  have hWn : W.toNat = 256 ^ s.l.length := by rw [← hW, hW1, hW2]
  have hW0 : W ≠ 0#64 := fun q => by rw [q] at hWn; have : (0#64).toNat = 0 := rfl; omega
  have hEn : (0#64).toNat = (g + 1).toNat := by show 0 = _; omega
  (repeat first | refine And.intro rfl ?_ | refine And.intro (fun _ => ?_) (fun h => absurd h (by rw [d1]; decide)) | refine And.intro (fun h => absurd h (by rw [d1]; decide)) (fun _ => ?_) | refine And.intro (fun _ => ?_) (fun h => absurd h (by rw [d2]; decide)) | refine And.intro (fun h => absurd h (by rw [d2]; decide)) (fun _ => ?_) | refine And.intro (fun _ => ?_) (fun h => absurd h (by rw [d3]; decide)) | refine And.intro (fun h => absurd h (by rw [d3]; decide)) (fun _ => ?_) | refine And.intro (fun _ => ?_) (fun h => absurd h (by rw [d4]; decide)) | refine And.intro (fun h => absurd h (by rw [d4]; decide)) (fun _ => ?_) | refine And.intro (fun _ => ?_) (fun h => Bool.noConfusion h) | refine And.intro (fun h => Bool.noConfusion h) (fun _ => ?_) | (with_reducible refine frc_bytesL (by first | omega | decide) ?_) | (with_reducible refine frc_bytesM (by first | omega | decide) ?_) | refine And.intro (by decide) ?_ | refine And.intro (by omega) ?_)
  refine And.intro (show 1#64 <<< (8#64 * BitVec.ofInt 64 (s.l.length : Int)).toNat ≠ 0#64 by rw [hW]; exact hW0) ?_
  (repeat first | refine And.intro rfl ?_ | refine And.intro (fun _ => ?_) (fun h => absurd h (by rw [d1]; decide)) | refine And.intro (fun h => absurd h (by rw [d1]; decide)) (fun _ => ?_) | refine And.intro (fun _ => ?_) (fun h => absurd h (by rw [d2]; decide)) | refine And.intro (fun h => absurd h (by rw [d2]; decide)) (fun _ => ?_) | refine And.intro (fun _ => ?_) (fun h => absurd h (by rw [d3]; decide)) | refine And.intro (fun h => absurd h (by rw [d3]; decide)) (fun _ => ?_) | refine And.intro (fun _ => ?_) (fun h => absurd h (by rw [d4]; decide)) | refine And.intro (fun h => absurd h (by rw [d4]; decide)) (fun _ => ?_) | refine And.intro (fun _ => ?_) (fun h => Bool.noConfusion h) | refine And.intro (fun h => Bool.noConfusion h) (fun _ => ?_) | (with_reducible refine frc_bytesL (by first | omega | decide) ?_) | (with_reducible refine frc_bytesM (by first | omega | decide) ?_) | refine And.intro (by decide) ?_ | refine And.intro (by omega) ?_)
  refine .inl ⟨Nat, fun k => ⟨[.a (.c (svC 0 s)), .any, .any, .any, .any, .any, .a (.c (.w64 (0#64))), .a (.c (.w64 (W))), .a (.c (.w64 ((W / 2#64)))), .a (.c (.w64 (nearB (0#64 / W) (s.l.take k)))), .any, .any, .any, .any, .any, .any, .any, .any, .any, .any, .any, .any, .any, .any, .any, .any, .any, .any, .any, .any, .any, .any, .any, .any, .any, .any, .any, .a (.c (svC 0 s)), .a (.c (.int .i64 (↑s.l.length))), .a (.c (.int .i64 (↑k))), .any, .any, .any, .any, .any, .any, .any, .any, .any, .any, .any, .any, .any, .any, .any, .any, .any, .any, .any, .any, .any, .any, .any, .any, .any, .any, .any, .any, .any, .any, .any, .any, .any, .any, .any, .any, .any, .any, .any], [[.row s.N (winF s.o s.l.length (L s.l))]]⟩, fun k => k ≤ s.l.length, fun k => s.l.length - k, ⟨0, [0], ⟨⟨rfl, rfl, rfl⟩, ?_⟩, by omega⟩, fun k hk => ⟨fun h => ?_, fun h => ?_⟩⟩
  · rw [hW]
    (repeat first | exact trivial | refine ent1 ?_)
  · have hlt : k < s.l.length := by have : (k : Int) < (s.l.length : Int) := of_decide_eq_true h; omega
    (repeat first | refine And.intro (by omega) ?_ | refine And.intro (by decide) ?_ | (with_reducible refine frc_parts (by first | omega | decide) ?_) | (with_reducible refine frc_bytesL (by first | omega | decide) ?_) | refine And.intro rfl ?_)
    with_reducible refine frc_winA k rfl hlt ?_
    (repeat first | refine And.intro (by omega) ?_ | refine And.intro (by decide) ?_ | (with_reducible refine frc_parts (by first | omega | decide) ?_) | (with_reducible refine frc_bytesL (by first | omega | decide) ?_) | refine And.intro rfl ?_)
    refine ⟨k + 1, [0], ⟨⟨rfl, rfl, rfl⟩, ?_⟩, by dsimp only; omega, by dsimp only; omega⟩
    (repeat first | exact trivial | refine ent1 ?_)
    refine ⟨(near_snoc _ hlt).symm, ?_⟩
    (repeat first | exact trivial | refine ent1 ?_)
  · obtain rfl : k = s.l.length := by have : ¬ (k : Int) < (s.l.length : Int) := of_decide_eq_false h; have hk : k ≤ s.l.length := hk; omega
    rw [List.take_length]
    obtain ⟨N, hN⟩ : ∃ N, nearB (0#64 / W) s.l = N := ⟨_, rfl⟩
    have hNn : N.toNat = nearN ((g + 1).toNat / 256 ^ s.l.length) s.l := by
      rw [← hN, near_bv _ _ (by rw [BitVec.toNat_udiv, hEn, hWn]; rcases hW3 with q | q | q | q <;> rw [q] <;> omega), BitVec.toNat_udiv, hEn, hWn]
    rw [hN]
    have hwh : wholeN s.l (g + 1).toNat = if N.toNat + 256 ^ s.l.length / 2 ≤ (g + 1).toNat ∧ N.toNat < 4611686018427387904 - 256 ^ s.l.length then N.toNat + 256 ^ s.l.length else if (g + 1).toNat + 256 ^ s.l.length / 2 < N.toNat ∧ 256 ^ s.l.length ≤ N.toNat then N.toNat - 256 ^ s.l.length else N.toNat := by unfold wholeN; rw [← hNn]
    have hNb : N.toNat < 4611686018427387904 := by rw [hNn]; exact near_le h1 h4 hg1
    obtain ⟨⟨q1, q2⟩, ⟨q3, q4⟩, q5, q6⟩ := whole_bv (n := N) (W := W) (e := 0#64) hWn hW3 hNb (by rw [hEn]; exact hg1)
    rw [hEn] at q1 q3
    by_cases a0 : N + W / 2#64 ≤ 0#64
    · have t0 : decide (N + W / 2#64 ≤ 0#64) = true := decide_eq_true a0
      by_cases a1 : N < 4611686018427387904#64 - W
      · have t1 : decide (N < 4611686018427387904#64 - W) = true := decide_eq_true a1
        (repeat first | refine And.intro rfl ?_ | refine And.intro (fun _ => ?_) (fun h => absurd h (by rw [d1]; decide)) | refine And.intro (fun h => absurd h (by rw [d1]; decide)) (fun _ => ?_) | refine And.intro (fun _ => ?_) (fun h => absurd h (by rw [d2]; decide)) | refine And.intro (fun h => absurd h (by rw [d2]; decide)) (fun _ => ?_) | refine And.intro (fun _ => ?_) (fun h => absurd h (by rw [d3]; decide)) | refine And.intro (fun h => absurd h (by rw [d3]; decide)) (fun _ => ?_) | refine And.intro (fun _ => ?_) (fun h => absurd h (by rw [d4]; decide)) | refine And.intro (fun h => absurd h (by rw [d4]; decide)) (fun _ => ?_) | refine And.intro (fun _ => ?_) (fun h => absurd h (by rw [t0]; decide)) | refine And.intro (fun h => absurd h (by rw [t0]; decide)) (fun _ => ?_) | refine And.intro (fun _ => ?_) (fun h => absurd h (by rw [t1]; decide)) | refine And.intro (fun h => absurd h (by rw [t1]; decide)) (fun _ => ?_) | refine And.intro (fun _ => ?_) (fun h => Bool.noConfusion h) | refine And.intro (fun h => Bool.noConfusion h) (fun _ => ?_) | (with_reducible refine frc_bytesL (by first | omega | decide) ?_) | (with_reducible refine frc_bytesM (by first | omega | decide) ?_) | refine And.intro (by decide) ?_ | refine And.intro (by omega) ?_)
        refine ⟨.tup [.c (.w64 (BitVec.ofNat 64 (wholeN s.l (g + 1).toNat))), .c (.int .i64 0)], _, ⟨[0], ⟨rfl, rfl, rfl⟩, ?_⟩, rfl, rfl⟩
        refine ⟨show N + W = BitVec.ofNat 64 (wholeN s.l (g + 1).toNat) by rw [hwh, if_pos ⟨q1.1 a0, q2.1 a1⟩]; exact q5, ?_⟩
        (repeat first | exact trivial | refine ent1 ?_)
      · have t1 : decide (N < 4611686018427387904#64 - W) = false := decide_eq_false a1
        have a2 : ¬ 0#64 + W / 2#64 < N := fun h => by have := q3.1 h; have := q1.1 a0; omega
        have t2 : decide (0#64 + W / 2#64 < N) = false := decide_eq_false a2
        (repeat first | refine And.intro rfl ?_ | refine And.intro (fun _ => ?_) (fun h => absurd h (by rw [d1]; decide)) | refine And.intro (fun h => absurd h (by rw [d1]; decide)) (fun _ => ?_) | refine And.intro (fun _ => ?_) (fun h => absurd h (by rw [d2]; decide)) | refine And.intro (fun h => absurd h (by rw [d2]; decide)) (fun _ => ?_) | refine And.intro (fun _ => ?_) (fun h => absurd h (by rw [d3]; decide)) | refine And.intro (fun h => absurd h (by rw [d3]; decide)) (fun _ => ?_) | refine And.intro (fun _ => ?_) (fun h => absurd h (by rw [d4]; decide)) | refine And.intro (fun h => absurd h (by rw [d4]; decide)) (fun _ => ?_) | refine And.intro (fun _ => ?_) (fun h => absurd h (by rw [t0]; decide)) | refine And.intro (fun h => absurd h (by rw [t0]; decide)) (fun _ => ?_) | refine And.intro (fun _ => ?_) (fun h => absurd h (by rw [t1]; decide)) | refine And.intro (fun h => absurd h (by rw [t1]; decide)) (fun _ => ?_) | refine And.intro (fun _ => ?_) (fun h => absurd h (by rw [t2]; decide)) | refine And.intro (fun h => absurd h (by rw [t2]; decide)) (fun _ => ?_) | refine And.intro (fun _ => ?_) (fun h => Bool.noConfusion h) | refine And.intro (fun h => Bool.noConfusion h) (fun _ => ?_) | (with_reducible refine frc_bytesL (by first | omega | decide) ?_) | (with_reducible refine frc_bytesM (by first | omega | decide) ?_) | refine And.intro (by decide) ?_ | refine And.intro (by omega) ?_)
        refine ⟨.tup [.c (.w64 (BitVec.ofNat 64 (wholeN s.l (g + 1).toNat))), .c (.int .i64 0)], _, ⟨[0], ⟨rfl, rfl, rfl⟩, ?_⟩, rfl, rfl⟩
        refine ⟨show N = BitVec.ofNat 64 (wholeN s.l (g + 1).toNat) by rw [hwh, if_neg (fun h => a1 (q2.2 h.2)), if_neg (fun h => a2 (q3.2 h.1))]; exact nof N, ?_⟩
        (repeat first | exact trivial | refine ent1 ?_)
    have t0 : decide (N + W / 2#64 ≤ 0#64) = false := decide_eq_false a0
    by_cases a2 : 0#64 + W / 2#64 < N
    · have t2 : decide (0#64 + W / 2#64 < N) = true := decide_eq_true a2
      by_cases a3 : W ≤ N
      · have t3 : decide (W ≤ N) = true := decide_eq_true a3
        (repeat first | refine And.intro rfl ?_ | refine And.intro (fun _ => ?_) (fun h => absurd h (by rw [d1]; decide)) | refine And.intro (fun h => absurd h (by rw [d1]; decide)) (fun _ => ?_) | refine And.intro (fun _ => ?_) (fun h => absurd h (by rw [d2]; decide)) | refine And.intro (fun h => absurd h (by rw [d2]; decide)) (fun _ => ?_) | refine And.intro (fun _ => ?_) (fun h => absurd h (by rw [d3]; decide)) | refine And.intro (fun h => absurd h (by rw [d3]; decide)) (fun _ => ?_) | refine And.intro (fun _ => ?_) (fun h => absurd h (by rw [d4]; decide)) | refine And.intro (fun h => absurd h (by rw [d4]; decide)) (fun _ => ?_) | refine And.intro (fun _ => ?_) (fun h => absurd h (by rw [t0]; decide)) | refine And.intro (fun h => absurd h (by rw [t0]; decide)) (fun _ => ?_) | refine And.intro (fun _ => ?_) (fun h => absurd h (by rw [t2]; decide)) | refine And.intro (fun h => absurd h (by rw [t2]; decide)) (fun _ => ?_) | refine And.intro (fun _ => ?_) (fun h => absurd h (by rw [t3]; decide)) | refine And.intro (fun h => absurd h (by rw [t3]; decide)) (fun _ => ?_) | refine And.intro (fun _ => ?_) (fun h => Bool.noConfusion h) | refine And.intro (fun h => Bool.noConfusion h) (fun _ => ?_) | (with_reducible refine frc_bytesL (by first | omega | decide) ?_) | (with_reducible refine frc_bytesM (by first | omega | decide) ?_) | refine And.intro (by decide) ?_ | refine And.intro (by omega) ?_)
        refine ⟨.tup [.c (.w64 (BitVec.ofNat 64 (wholeN s.l (g + 1).toNat))), .c (.int .i64 0)], _, ⟨[0], ⟨rfl, rfl, rfl⟩, ?_⟩, rfl, rfl⟩
        refine ⟨show N - W = BitVec.ofNat 64 (wholeN s.l (g + 1).toNat) by rw [hwh, if_neg (fun h => a0 (q1.2 h.1)), if_pos ⟨q3.1 a2, q4.1 a3⟩]; exact q6 (q4.1 a3), ?_⟩
        (repeat first | exact trivial | refine ent1 ?_)
      · have t3 : decide (W ≤ N) = false := decide_eq_false a3
        (repeat first | refine And.intro rfl ?_ | refine And.intro (fun _ => ?_) (fun h => absurd h (by rw [d1]; decide)) | refine And.intro (fun h => absurd h (by rw [d1]; decide)) (fun _ => ?_) | refine And.intro (fun _ => ?_) (fun h => absurd h (by rw [d2]; decide)) | refine And.intro (fun h => absurd h (by rw [d2]; decide)) (fun _ => ?_) | refine And.intro (fun _ => ?_) (fun h => absurd h (by rw [d3]; decide)) | refine And.intro (fun h => absurd h (by rw [d3]; decide)) (fun _ => ?_) | refine And.intro (fun _ => ?_) (fun h => absurd h (by rw [d4]; decide)) | refine And.intro (fun h => absurd h (by rw [d4]; decide)) (fun _ => ?_) | refine And.intro (fun _ => ?_) (fun h => absurd h (by rw [t0]; decide)) | refine And.intro (fun h => absurd h (by rw [t0]; decide)) (fun _ => ?_) | refine And.intro (fun _ => ?_) (fun h => absurd h (by rw [t2]; decide)) | refine And.intro (fun h => absurd h (by rw [t2]; decide)) (fun _ => ?_) | refine And.intro (fun _ => ?_) (fun h => absurd h (by rw [t3]; decide)) | refine And.intro (fun h => absurd h (by rw [t3]; decide)) (fun _ => ?_) | refine And.intro (fun _ => ?_) (fun h => Bool.noConfusion h) | refine And.intro (fun h => Bool.noConfusion h) (fun _ => ?_) | (with_reducible refine frc_bytesL (by first | omega | decide) ?_) | (with_reducible refine frc_bytesM (by first | omega | decide) ?_) | refine And.intro (by decide) ?_ | refine And.intro (by omega) ?_)
        refine ⟨.tup [.c (.w64 (BitVec.ofNat 64 (wholeN s.l (g + 1).toNat))), .c (.int .i64 0)], _, ⟨[0], ⟨rfl, rfl, rfl⟩, ?_⟩, rfl, rfl⟩
        refine ⟨show N = BitVec.ofNat 64 (wholeN s.l (g + 1).toNat) by rw [hwh, if_neg (fun h => a0 (q1.2 h.1)), if_neg (fun h => a3 (q4.2 h.2))]; exact nof N, ?_⟩
        (repeat first | exact trivial | refine ent1 ?_)
    have t2 : decide (0#64 + W / 2#64 < N) = false := decide_eq_false a2
    (repeat first | refine And.intro rfl ?_ | refine And.intro (fun _ => ?_) (fun h => absurd h (by rw [d1]; decide)) | refine And.intro (fun h => absurd h (by rw [d1]; decide)) (fun _ => ?_) | refine And.intro (fun _ => ?_) (fun h => absurd h (by rw [d2]; decide)) | refine And.intro (fun h => absurd h (by rw [d2]; decide)) (fun _ => ?_) | refine And.intro (fun _ => ?_) (fun h => absurd h (by rw [d3]; decide)) | refine And.intro (fun h => absurd h (by rw [d3]; decide)) (fun _ => ?_) | refine And.intro (fun _ => ?_) (fun h => absurd h (by rw [d4]; decide)) | refine And.intro (fun h => absurd h (by rw [d4]; decide)) (fun _ => ?_) | refine And.intro (fun _ => ?_) (fun h => absurd h (by rw [t0]; decide)) | refine And.intro (fun h => absurd h (by rw [t0]; decide)) (fun _ => ?_) | refine And.intro (fun _ => ?_) (fun h => absurd h (by rw [t2]; decide)) | refine And.intro (fun h => absurd h (by rw [t2]; decide)) (fun _ => ?_) | refine And.intro (fun _ => ?_) (fun h => Bool.noConfusion h) | refine And.intro (fun h => Bool.noConfusion h) (fun _ => ?_) | (with_reducible refine frc_bytesL (by first | omega | decide) ?_) | (with_reducible refine frc_bytesM (by first | omega | decide) ?_) | refine And.intro (by decide) ?_ | refine And.intro (by omega) ?_)
    refine ⟨.tup [.c (.w64 (BitVec.ofNat 64 (wholeN s.l (g + 1).toNat))), .c (.int .i64 0)], _, ⟨[0], ⟨rfl, rfl, rfl⟩, ?_⟩, rfl, rfl⟩
    refine ⟨show N = BitVec.ofNat 64 (wholeN s.l (g + 1).toNat) by rw [hwh, if_neg (fun h => a0 (q1.2 h.1)), if_neg (fun h => a2 (q3.2 h.1))]; exact nof N, ?_⟩
    (repeat first | exact trivial | refine ent1 ?_)
end Sx
end Go.Proofs.YtkjdkeolkigibaaGreat
end

section
/-
  Packets, opened. No condition.
-/
namespace Go.Proofs.YtkjdkeolkigibaaGreat
set_option linter.unusedVariables false
namespace Sx
open Sha Vi Aes Gcm
set_option linter.unusedSimpArgs false
abbrev pk0 : List Seg := [.one (.w8 0#8), .one (.slc none 0 0), .one (.slc none 0 0), .one (.slc none 0 0), .one (.bool false), .one (.slc none 0 0), .one (.w64 0#64), .one (.slc none 0 0)]
abbrev pkC (a b c d e : Nat) (g : Hd) (full : BitVec 64) (n k : Nat) : List Seg := [.one (.w8 g.sp), .one (svC a g.t), .one (svC b g.f), .one (svC c g.k), .one (.bool g.turn), .one (svC d g.n), .one (.w64 full), .one (.sl e 0 0 n k)]
theorem win_part {g : Nat → Nat} {o n a k : Nat} {l A : Bs} (h : a + k ≤ n) (hA : ∀ i, i < k → L l (a + i) = L A i) {q : List Nat} (j : Nat) : eqC q (SC.mp g (winF o n (L l) j)) (winF (o + a) k (L A) j) True :=
  eqC_win (f := fun j => SC.mp g (winF o n (L l) j)) (fun i hi => by
    show SC.mp g (winF o n (L l) (o + a + i)) = _
    rw [Nat.add_assoc, winF_at _ _ _ (by omega), hA i hi]
    rfl) j
theorem len9' {α : Type} : ∀ {l : List α}, l.length = 9 → ∃ a b c d e f g h i, l = [a, b, c, d, e, f, g, h, i]
  | [a, b, c, d, e, f, g, h, i], _ => ⟨a, b, c, d, e, f, g, h, i, rfl⟩
abbrev upB (T F K b : Sl) (iv Kk K2 : Nat → BitVec 8) (H : Gcm.E) (cnt : Int) : List (List Seg) := [svB T, svB F, svB K, svB b, kyV 7 8 iv, tabs 1 0 boxes cnt, keyD 5 Kk, sealC 6 H, keyD 5 K2]
set_option maxRecDepth 20000 in
set_option maxHeartbeats 8000000 in
theorem fn_unprotect (sp : BitVec 8) (T F K b : Sl) (hT : T.Ok) (hF : F.Ok) (hK : K.Ok) (hb : b.Ok) (at_ en : Nat) (gr : Int) (hgr : -9223372036854775808 ≤ gr ∧ gr ≤ 9223372036854775807) (h1 : 1 ≤ at_) (h2 : en ≤ b.l.length) (h3 : at_ + 20 ≤ en) (cnt : Int) (hc : 0 ≤ cnt ∧ cnt ≤ 800000000)
    (kq kh Kk K2 iv R : Nat → BitVec 8) (E : (Nat → BitVec 8) → Nat → BitVec 8) (H : Gcm.E) (hKk : pKeys kq = Kk) (hE : pTurn kq = E) (hK2 : pKeys kh = K2) (hR : pTurn kh (smpB (b.l.take en) at_) = R) (f0 : BitVec 8) (hf0 : L b.l 0 ^^^ (R 0 &&& hidB sp) = f0) (m : Nat) (hm : manyB f0 = m) (sh : Bs) (hsh : maskL R (hidB sp) at_ m (b.l.take en) = sh)
    (full : BitVec 64) (hfull : BitVec.ofNat 64 (wholeN ((sh.drop at_).take m) (gr + 1).toNat) = full) (A C P : Bs) (hA : sh.take (at_ + m) = A) (hC : sh.drop (at_ + m) = C) (TT : Nat → BitVec 8) (hTT : tagB E H (nonB iv full) A (C.take (en - (at_ + m) - 16)) = TT) (hP : cryL E (nonB iv full) (C.take (en - (at_ + m) - 16)) = P) :
    FnR Tryz.prog tds 11 5 (upB T F K b iv Kk K2 H cnt) [.c (.p 4 0 0), .agg (psI 0 1 2 sp T F K at_ en), .c (svC 3 b), .c (.int .i64 gr)] (fun _ => True)
      (fun y hs => (noneB sp f0 ≠ 0#8 → y = .tup [.agg pk0, .c (.int .i64 4)] ∧ hs = upB T F K b iv Kk K2 H (cnt + 1)) ∧
        (noneB sp f0 = 0#8 → 4611686018427387903 ≤ gr → y = .tup [.agg pk0, .c (.int .i64 2)] ∧ hs = upB T F K b iv Kk K2 H (cnt + 1)) ∧
        (noneB sp f0 = 0#8 → gr < 4611686018427387903 → (¬ ∀ i, i < 16 → L C (en - (at_ + m) - 16 + i) = TT i) → y = .tup [.agg pk0, .c (.int .i64 8)] ∧ hs = upB T F K b iv Kk K2 H (cnt + 1 + 1)) ∧
        (noneB sp f0 = 0#8 → gr < 4611686018427387903 → (∀ i, i < 16 → L C (en - (at_ + m) - 16 + i) = TT i) → ∃ g : Hd, g.Ok ∧ g.sp = sp ∧ g.t.l = T.l ∧ g.f.l = F.l ∧ g.k.l = K.l ∧ g.turn = (if sp = 2#8 then decide (f0 &&& 4#8 ≠ 0#8) else false) ∧ g.n.l = (sh.drop at_).take m ∧
          y = .tup [.agg (pkC 9 10 11 12 13 g full (en - (at_ + m) - 16) (en - (at_ + m))), .c (.int .i64 0)] ∧
          hs = upB T F K b iv Kk K2 H (cnt + 1 + 1 + ((en - (at_ + m) - 1) / 16 : Nat)) ++ hdB g ++ [[.row (en - (at_ + m)) (bytesF (en - (at_ + m) - 16) (L P))]])) := by
  refine fn_of_body tds_ok follows_ Tryz.func11 rfl (t := .a (.c (.p 4 0 0)) :: .a (.agg (psI 0 1 2 sp T F K at_ en)) :: .a (.c (svC 3 b)) :: .a (.c (.int .i64 gr)) :: anys (Tryz.f11.ntmps - 4)) rfl (fun w r0 hr _ => ?_)
  obtain ⟨x0, x1, x2, x3, x4, x5, x6, x7, x8, rfl⟩ := len9' hr
  have hm4 : m ≤ 4 := by rw [← hm]; exact many_le f0
  have hm1 : 1 ≤ m := by rw [← hm]; exact Nat.le_add_left _ _
  have hsm := hb.small
  have lB : (b.l.take en).length = en := by rw [List.length_take]; omega
  have hsl : sh.length = en := by rw [← hsh, maskL_len, lB]
  have ln : ((sh.drop at_).take m).length = m := by rw [List.length_take, List.length_drop]; omega
  (repeat first | refine And.intro rfl ?_ | refine And.intro (fun _ => ?_) (fun h => Bool.noConfusion h) | refine And.intro (fun h => Bool.noConfusion h) (fun _ => ?_) | (with_reducible refine frc_bytesL (by first | omega | decide) ?_) | (with_reducible refine frc_bytesM (by first | omega | decide) ?_) | refine And.intro (by decide) ?_ | refine And.intro (by omega) ?_)
  refine call_same (fn_shown sp T F K b hT hF hK hb at_ en h1 h2 h3 cnt (by omega) kh K2 R hK2 hR f0 hf0 sh (by rw [hm]; exact hsh)) [0, 1, 2, 3, 4, 5, 8] rfl (by (repeat first | exact trivial | refine ent1 ?_)) ?_ (fun _ _ => trivial) ?_
  · refine eqC_bts (eqC_bts (eqC_bts (eqC_bts ?_)))
    (repeat first | exact trivial | refine ent1 ?_)
  rintro x hs ⟨hno, hyes⟩
  by_cases hn : noneB sp f0 = 0#8
  rotate_left
  · obtain ⟨rfl, rfl⟩ := hno hn
    (repeat first | refine And.intro rfl ?_ | refine And.intro (fun _ => ?_) (fun h => Bool.noConfusion h) | refine And.intro (fun h => Bool.noConfusion h) (fun _ => ?_) | (with_reducible refine frc_bytesL (by first | omega | decide) ?_) | (with_reducible refine frc_bytesM (by first | omega | decide) ?_) | refine And.intro (by decide) ?_ | refine And.intro (by omega) ?_)
    refine ⟨.tup [.agg pk0, .c (.int .i64 4)], _, ⟨[0, 1, 2, 3, 4, 5, 6, 7, 8], ⟨rfl, rfl, rfl⟩, ?_⟩, fun _ => ⟨rfl, rfl⟩, fun h => absurd h hn, fun h => absurd h hn, fun h => absurd h hn⟩
    (repeat first | exact trivial | refine ent1 ?_)
    refine eqC_bts (eqC_bts (eqC_bts (eqC_bts ?_)))
    (repeat first | exact trivial | refine ent1 ?_)
  obtain ⟨S, g, hS, hSl, hg, g1, g2, g3, g4, g5, g6, rfl, rfl⟩ := hyes hn
  rw [hm] at g6
  have hSn : S.l.length = en := by rw [hSl, hsl]
  have hSz : S.z = false := hS.pos (by omega)
  have hSf := hS.fit
  have hSc := hS.cap
  have lg : g.n.l.length = m := by rw [g6, ln]
  (repeat first | refine And.intro rfl ?_ | refine And.intro (fun _ => ?_) (fun h => Bool.noConfusion h) | refine And.intro (fun h => Bool.noConfusion h) (fun _ => ?_) | (with_reducible refine frc_bytesL (by first | omega | decide) ?_) | (with_reducible refine frc_bytesM (by first | omega | decide) ?_) | refine And.intro (by decide) ?_ | refine And.intro (by omega) ?_)
  refine call_same (fn_pwhole g.n hg.n gr hgr (by omega) (by omega)) [15] rfl (by (repeat first | exact trivial | refine ent1 ?_)) ?_ (fun _ _ => trivial) ?_
  · refine eqC_btsM ?_
    (repeat first | exact trivial | refine ent1 ?_)
  rintro x hs' ⟨rfl, rfl⟩
  by_cases hG : 4611686018427387903 ≤ gr
  · rw [if_pos hG]
    (repeat first | refine And.intro rfl ?_ | refine And.intro (fun _ => ?_) (fun h => Bool.noConfusion h) | refine And.intro (fun h => Bool.noConfusion h) (fun _ => ?_) | (with_reducible refine frc_bytesL (by first | omega | decide) ?_) | (with_reducible refine frc_bytesM (by first | omega | decide) ?_) | refine And.intro (by decide) ?_ | refine And.intro (by omega) ?_)
    refine ⟨.tup [.agg pk0, .c (.int .i64 2)], _, ⟨[0, 1, 2, 3, 4, 5, 6, 7, 8], ⟨rfl, rfl, rfl⟩, ?_⟩, fun h => absurd hn h, fun _ _ => ⟨rfl, rfl⟩, fun _ h => absurd hG (by omega), fun _ h => absurd hG (by omega)⟩
    (repeat first | exact trivial | refine ent1 ?_)
    refine eqC_bts (eqC_bts (eqC_bts (eqC_bts ?_)))
    (repeat first | exact trivial | refine ent1 ?_)
  rw [if_neg hG, g6, hfull]
  (repeat first | refine And.intro rfl ?_ | refine And.intro (fun _ => ?_) (fun h => Bool.noConfusion h) | refine And.intro (fun h => Bool.noConfusion h) (fun _ => ?_) | (with_reducible refine frc_bytesL (by first | omega | decide) ?_) | (with_reducible refine frc_bytesM (by first | omega | decide) ?_) | refine And.intro (by decide) ?_ | refine And.intro (by omega) ?_)
  refine ⟨some [9], [], [(0, true), (1, true), (2, true), (3, true), (4, true), (5, true), (6, true), (7, true), (8, false), (9, true), (10, true), (11, true), (12, true), (13, true)], [], by kernel_rfl, ?_⟩
  (repeat first | refine And.intro rfl ?_ | refine And.intro (fun _ => ?_) (fun h => Bool.noConfusion h) | refine And.intro (fun h => Bool.noConfusion h) (fun _ => ?_) | (with_reducible refine frc_bytesL (by first | omega | decide) ?_) | (with_reducible refine frc_bytesM (by first | omega | decide) ?_) | refine And.intro (by decide) ?_ | refine And.intro (by omega) ?_)
  have lA : A.length = at_ + m := by rw [← hA, List.length_take]; omega
  have lC : C.length = en - (at_ + m) := by rw [← hC, List.length_drop]; omega
  refine call_same (fn_kopen S.z S.z S.N S.N S.o (S.o + (at_ + m)) (at_ + m) (en - (at_ + m)) S.c (S.c - (at_ + m)) A C TT P (cnt + 1) kq Kk iv full E hKk hE H hTT hP lA (by omega) (by omega) (fun h => by rw [hSz] at h; cases h) (by omega) lC (by omega) (by omega) (fun h => by rw [hSz] at h; cases h) (by omega) (by omega)) [11, 11, 4, 5, 6, 7] rfl ?_ ?_ (fun _ _ => trivial) ?_
  · have hat : ((at_ : Int) + (g.n.l.length : Int)).toNat = at_ + m := by omega
    (repeat first | exact trivial | refine ent1 ?_)
    refine ⟨(show (if S.c = 0 then S.o else S.o + 0 * 1) = S.o by split <;> simp), (show ((at_ : Int) + (g.n.l.length : Int)).toNat - 0 = at_ + m by rw [hat]; rfl), rfl, ?_⟩
    (repeat first | exact trivial | refine ent1 ?_)
    refine ⟨(show (if S.c = ((at_ : Int) + (g.n.l.length : Int)).toNat then S.o else S.o + ((at_ : Int) + (g.n.l.length : Int)).toNat * 1) = S.o + (at_ + m) by rw [hat, if_neg (by omega), Nat.mul_one]), (show S.l.length - ((at_ : Int) + (g.n.l.length : Int)).toNat = en - (at_ + m) by omega), (show S.c - ((at_ : Int) + (g.n.l.length : Int)).toNat = S.c - (at_ + m) by rw [hat]), trivial⟩
  · rw [svB_row hSz, hSz]
    refine ⟨rfl, fun j hj => win_part (a := 0) (by omega) (fun i hi => by rw [hSl, ← hA, L_take _ _ _ hi, Nat.zero_add]) j, rfl, fun j hj => win_part (by omega) (fun i hi => by rw [hSl, ← hC, L_drop]) j, ?_⟩
    (repeat first | exact trivial | refine ent1 ?_)
  rintro x hs' ⟨-, hok, hbad⟩
  by_cases ht : ∀ i, i < 16 → L C (en - (at_ + m) - 16 + i) = TT i
  · obtain ⟨rfl, rfl⟩ := hok (by omega) ht
    (repeat first | refine And.intro rfl ?_ | refine And.intro (fun _ => ?_) (fun h => Bool.noConfusion h) | refine And.intro (fun h => Bool.noConfusion h) (fun _ => ?_) | (with_reducible refine frc_bytesL (by first | omega | decide) ?_) | (with_reducible refine frc_bytesM (by first | omega | decide) ?_) | refine And.intro (by decide) ?_ | refine And.intro (by omega) ?_)
    refine ⟨.tup [.agg (pkC 9 10 11 12 13 g full (en - (at_ + m) - 16) (en - (at_ + m))), .c (.int .i64 0)], _, ⟨[0, 1, 2, 3, 4, 5, 6, 7, 8, 12, 13, 14, 15, 17], ⟨rfl, rfl, rfl⟩, ?_⟩, fun h => absurd hn h, fun _ h => absurd h hG, fun _ _ h => absurd ht h, fun _ _ _ => ⟨g, hg, g1, g2, g3, g4, g5, g6, rfl, rfl⟩⟩
    (repeat first | exact trivial | refine ent1 ?_)
    refine eqC_bts (eqC_bts (eqC_bts (eqC_bts ?_)))
    (repeat first | exact trivial | refine ent1 ?_)
    refine eqC_btsM (eqC_btsM (eqC_btsM (eqC_btsM ?_)))
    (repeat first | exact trivial | refine ent1 ?_)
  · obtain ⟨rfl, rfl⟩ := hbad (by omega) ht
    (repeat first | refine And.intro rfl ?_ | refine And.intro (fun _ => ?_) (fun h => Bool.noConfusion h) | refine And.intro (fun h => Bool.noConfusion h) (fun _ => ?_) | (with_reducible refine frc_bytesL (by first | omega | decide) ?_) | (with_reducible refine frc_bytesM (by first | omega | decide) ?_) | refine And.intro (by decide) ?_ | refine And.intro (by omega) ?_)
    refine ⟨.tup [.agg pk0, .c (.int .i64 8)], _, ⟨[0, 1, 2, 3, 4, 5, 6, 7, 8], ⟨rfl, rfl, rfl⟩, ?_⟩, fun h => absurd hn h, fun _ h => absurd h hG, fun _ _ _ => ⟨rfl, rfl⟩, fun _ _ h => absurd h ht⟩
    (repeat first | exact trivial | refine ent1 ?_)
    refine eqC_bts (eqC_bts (eqC_bts (eqC_bts ?_)))
    (repeat first | exact trivial | refine ent1 ?_)
end Sx
end Go.Proofs.YtkjdkeolkigibaaGreat
end
