/-
  Texts of this claim, part 9: SeZ, HaA, SeE, SeA, Sxw2, RowL, SeF. No condition of its own.
-/
import Derived.Test.YtkjdkeolkigibaaGreatG8
section
/-
  The laws of sealing: their fixed fact. No condition.
-/
namespace Go.Proofs.YtkjdkeolkigibaaGreat
set_option linter.unusedVariables false
namespace Sx
open Sha Vi Aes Gcm
set_option linter.unusedSimpArgs false
def idB : Bs := [49#8, 50#8, 51#8, 52#8, 53#8, 54#8, 55#8, 56#8]
def plA : Bs := [1#8, 2#8, 3#8]
def scA : Bs := 1#8 :: List.replicate 31 0#8
abbrev hdA : Hd := ⟨2#8, ⟨false, 8, 0, 8, idB⟩, nilS, nilS, false, nilS⟩
set_option maxRecDepth 20000 in
set_option maxHeartbeats 8000000 in
theorem fn_awake12 : Fn Tryz.prog tds 6 [] [] (fun _ => True) (fun x hs => x = .a (.c (.bool true)) ∧ hs = []) := by
  refine fn_of_body tds_ok follows_ Tryz.func6 rfl (t := anys 53) rfl (fun w r0 hr _ => ?_)
  obtain rfl : r0 = [] := List.eq_nil_of_length_eq_zero hr
  obtain ⟨kq, hkq⟩ : ∃ v, exF scA (labT qKey [] 16) = v := ⟨_, rfl⟩
  obtain ⟨iv, hiv⟩ : ∃ v, exF scA (labT qIv [] 12) = v := ⟨_, rfl⟩
  obtain ⟨kh, hkh⟩ : ∃ v, exF scA (labT qHp [] 16) = v := ⟨_, rfl⟩
  obtain ⟨K, hK⟩ : ∃ v, pKeys kq = v := ⟨_, rfl⟩
  obtain ⟨K2, hK2⟩ : ∃ v, pKeys kh = v := ⟨_, rfl⟩
  obtain ⟨E, hE⟩ : ∃ v, pTurn kq = v := ⟨_, rfl⟩
  obtain ⟨H, hH⟩ : ∃ H, toE (E fun _ => 0#8) = H := ⟨_, rfl⟩
  have hsl : scA.length = 32 := rfl
  (repeat first | refine And.intro rfl ?_ | refine And.intro (fun _ => ?_) (fun h => Bool.noConfusion h) | refine And.intro (fun h => Bool.noConfusion h) (fun _ => ?_) | (with_reducible refine frc_bytesL (by first | omega | decide) ?_) | (with_reducible refine frc_bytesM (by first | omega | decide) ?_) | refine And.intro (by decide) ?_ | refine And.intro (by omega) ?_)
  refine call_same fn_keysNew [] rfl trivial trivial (fun _ _ => trivial) ?_
  rintro x hs' ⟨rfl, rfl⟩
  (repeat first | refine And.intro rfl ?_ | refine And.intro (fun _ => ?_) (fun h => Bool.noConfusion h) | refine And.intro (fun h => Bool.noConfusion h) (fun _ => ?_) | (with_reducible refine frc_bytesL (by first | omega | decide) ?_) | (with_reducible refine frc_bytesM (by first | omega | decide) ?_) | refine And.intro (by decide) ?_ | refine And.intro (by omega) ?_)
  refine call_same (fn_kOf scA 0 (fun _ => 0#32) (fun _ => 0#32) (.inl rfl) hsl 0 (fun _ => 0#8) 0 (.inl rfl) (by omega) kq K kh K2 iv E H hkq hiv hkh hK hE hH hK2) [2, 0, 1] rfl ?_ (by (repeat first | exact trivial | refine ent1 ?_)) (fun _ _ => trivial) ?_
  · (repeat first | exact trivial | refine ent1 ?_)
    refine ⟨fun j hj => eqC_w8 (nthC_w8 scA j hj), ?_⟩
    (repeat first | exact trivial | refine ent1 ?_)
  rintro x hs' ⟨dn, f, g, hd, rfl, rfl⟩
  (repeat first | refine And.intro rfl ?_ | refine And.intro (fun _ => ?_) (fun h => Bool.noConfusion h) | refine And.intro (fun h => Bool.noConfusion h) (fun _ => ?_) | (with_reducible refine frc_bytesL (by first | omega | decide) ?_) | (with_reducible refine frc_bytesM (by first | omega | decide) ?_) | refine And.intro (by decide) ?_ | refine And.intro (by omega) ?_)
  obtain ⟨hN, hhN⟩ : ∃ v, numH hdA 5#64 1 = v := ⟨_, rfl⟩
  have hch : checkM hN = 0 := by rw [← hhN]; decide +kernel
  have hln : hN.n.l.length = 1 := by rw [← hhN]; rfl
  obtain ⟨op, hop⟩ : ∃ v, putH hN 19 = v := ⟨_, rfl⟩
  have lop : op.length = 9 + 1 := by rw [← hop, ← hhN]; decide +kernel
  obtain ⟨S, hS⟩ : ∃ S, sealL E H (nonB iv 5#64) op plA = S := ⟨_, rfl⟩
  obtain ⟨R, hR⟩ : ∃ R, pTurn kh (smpB (op ++ S) 9) = R := ⟨_, rfl⟩
  obtain ⟨W, hW⟩ : ∃ W, maskL R (hidB 2#8) 9 1 (op ++ S) = W := ⟨_, rfl⟩
  have hsp : hN.sp = 2#8 := by rw [← hhN]; rfl
  have l3 : plA.length = 3 := rfl
  have pk : Packet hN op S W [] plA 9 1 29 R E H (nonB iv 5#64) := by
    have := packet (more := []) hch hln (pl := plA) (by rw [l3]; omega) (by rw [l3]; omega) (by rw [l3]; exact hop) hS lop R (by rw [hsp, hW]) (fun _ => rfl)
    rw [l3] at this
    exact this
  have hpE : putE hN 19 = 0 := by rw [← hhN]; decide +kernel
  refine call_same (fn_protect hdA ⟨⟨by decide, by decide, fun h => Bool.noConfusion h, by decide⟩, nil_ok, nil_ok, nil_ok⟩ ⟨false, 3, 0, 3, plA⟩ ⟨by decide, by decide, fun h => Bool.noConfusion h, by decide⟩ (by decide) 5#64 (by decide) (-1) (by omega) (0 + 1) (by omega) kq kh K K2 iv R E H hK hE hK2 1 (by decide +kernel) hN hhN plA rfl 0 hpE op hop S hS 9 lop (by omega) hR) [7, 7, 7, 7, 8, 3, 1, 4, 5, 6] rfl ?_ ?_ (fun _ _ => trivial) ?_
  · (repeat first | exact trivial | refine ent1 ?_)
  · refine ⟨rfl, fun j hj => eqC_lit idB hj, eqSegs_nil (eqSegs_nil (eqSegs_nil ⟨rfl, fun j hj => eqC_lit plA hj, ?_⟩))⟩
    (repeat first | exact trivial | refine ent1 ?_)
  rintro x hs' ⟨-, hres⟩
  obtain ⟨c1, cnt1, hc1, hc2, hc3, rfl, rfl⟩ := hres rfl
  clear hres
  rw [show maskL R (hidB hdA.sp) 9 1 (op ++ S) = W from hW]
  have lB : (op ++ S).length = W.length := by rw [← hW, maskL_len]
  have lW : W.length = 29 := pk.len
  rw [lB, lW]
  rw [lB, lW] at hc3
  have tk : W.take 29 = W := by have := pk.tk; rwa [List.append_nil] at this
  have hpar : parseP W ((8 : Nat) : Int) = .ok 2#8 idB [] [] 9 29 := by
    have := pk.par
    rw [List.append_nil, ← hhN] at this
    exact this
  have oW : Sl.Ok ⟨false, c1, 0, c1, W⟩ := own_ok (by omega) (by omega)
  (repeat first | refine And.intro rfl ?_ | refine And.intro (fun _ => ?_) (fun h => Bool.noConfusion h) | refine And.intro (fun h => Bool.noConfusion h) (fun _ => ?_) | (with_reducible refine frc_bytesL (by first | omega | decide) ?_) | (with_reducible refine frc_bytesM (by first | omega | decide) ?_) | refine And.intro (by decide) ?_ | refine And.intro (by omega) ?_)
  refine call_same (fn_parse ⟨false, c1, 0, c1, W⟩ oW ((8 : Nat) : Int)) [9] rfl ?_ ?_ (fun _ _ => trivial) ?_
  · (repeat first | exact trivial | refine ent1 ?_)
    exact ⟨lW.symm, rfl, rfl, trivial⟩
  · (repeat first | exact trivial | refine ent1 ?_)
    refine ⟨fun j hj => eqC_winBM (Nat.le_refl _), ?_⟩
    (repeat first | exact trivial | refine ent1 ?_)
  rintro x hs' hres
  rw [show parseP (Sl.l ⟨false, c1, 0, c1, W⟩) ((8 : Nat) : Int) = .ok 2#8 idB [] [] 9 29 from hpar] at hres
  obtain ⟨T, F, KK, hT, hF, hKK, eT, eF, eK, rfl, rfl⟩ := hres
  (repeat first | refine And.intro rfl ?_ | refine And.intro (fun _ => ?_) (fun h => Bool.noConfusion h) | refine And.intro (fun h => Bool.noConfusion h) (fun _ => ?_) | (with_reducible refine frc_bytesL (by first | omega | decide) ?_) | (with_reducible refine frc_bytesM (by first | omega | decide) ?_) | refine And.intro (by decide) ?_ | refine And.intro (by omega) ?_)
  refine call_same (fn_unprotect 2#8 T F KK ⟨false, c1, 0, c1, W⟩ hT hF hKK oW 9 29 4 (by omega) (by omega) (by show 29 ≤ W.length; omega) (by omega) cnt1 (by omega) kq kh K K2 iv R E H hK hE hK2 (by rw [show (Sl.l ⟨false, c1, 0, c1, W⟩).take 29 = W from tk, pk.smp]; exact hR) (fstB hN) (by have := pk.f0; rw [List.append_nil, hsp] at this; exact this) 1 pk.many (op ++ S)
    (by rw [show (Sl.l ⟨false, c1, 0, c1, W⟩).take 29 = W from tk]; have := pk.back; rw [hsp] at this; exact this) 5#64 (by rw [pk.tn, ← hhN]; decide +kernel) op S plA pk.tA pk.tC _ rfl pk.cry) [10, 11, 12, 9, 3, 1, 4, 5, 6] rfl ?_ ?_ (fun _ _ => trivial) ?_
  · (repeat first | exact trivial | refine ent1 ?_)
    refine ⟨lW.symm, rfl, ?_⟩
    (repeat first | exact trivial | refine ent1 ?_)
  · refine eqC_btsM (eqC_btsM (eqC_btsM ?_))
    refine ⟨rfl, fun j hj => eqC_winBM (Nat.le_refl _), ?_⟩
    (repeat first | exact trivial | refine ent1 ?_)
  rintro x hs' ⟨-, -, -, hres⟩
  obtain ⟨g', hg', g1, g2, g3, g4, g5, g6, rfl, rfl⟩ := hres (by have := pk.none; rw [hsp] at this; exact this) (by omega) pk.tag
  clear hres
  have q1 : decide (U8 plA = [1, 2, 3]) = true := by decide
  (repeat first | refine And.intro rfl ?_ | refine And.intro (fun _ => ?_) (fun h => absurd h (by rw [q1]; decide)) | refine And.intro (fun h => absurd h (by rw [q1]; decide)) (fun _ => ?_) | refine And.intro (fun _ => ?_) (fun h => Bool.noConfusion h) | refine And.intro (fun h => Bool.noConfusion h) (fun _ => ?_) | (with_reducible refine frc_bytesL (by first | omega | decide) ?_) | (with_reducible refine frc_bytesM (by first | omega | decide) ?_) | refine And.intro (by decide) ?_ | refine And.intro (by omega) ?_)
  refine ⟨U8 plA, str_of (M := plA) rfl (fun q hq => ?_), ?_⟩
  · show SC.mp _ (bytesF 3 (L plA) (q + 0)) = _
    rw [Nat.add_zero, bytesF_lt (by exact hq)]
    rfl
  (repeat first | refine And.intro rfl ?_ | refine And.intro (fun _ => ?_) (fun h => absurd h (by rw [q1]; decide)) | refine And.intro (fun h => absurd h (by rw [q1]; decide)) (fun _ => ?_) | refine And.intro (fun _ => ?_) (fun h => Bool.noConfusion h) | refine And.intro (fun h => Bool.noConfusion h) (fun _ => ?_) | (with_reducible refine frc_bytesL (by first | omega | decide) ?_) | (with_reducible refine frc_bytesM (by first | omega | decide) ?_) | refine And.intro (by decide) ?_ | refine And.intro (by omega) ?_)
  exact ⟨.a (.c (.bool true)), [], ⟨[], ⟨rfl, rfl, rfl⟩, q1, trivial⟩, rfl, rfl⟩
end Sx
end Go.Proofs.YtkjdkeolkigibaaGreat
end

section
/-
  What is taken out of any bytes: plain. No condition.
-/
namespace Go.Proofs.YtkjdkeolkigibaaGreat
set_option linter.unusedVariables false
namespace Vi
open Sha
theorem bytesM_0 {l t l' : Bs} {e e' m : Int} (h : bytesM l e m = (t, l', e')) (h0 : e' = 0) : e = 0 ∧ (t.length : Int) = m ∧ l'.length + t.length = l.length := by
  subst h0
  unfold bytesM at h
  split at h
  · rename_i he
    simp only [Prod.mk.injEq] at h
    exact absurd h.2.2 he
  · rename_i he
    split at h
    · simp only [Prod.mk.injEq] at h
      exact absurd h.2.2 (by decide)
    · rename_i hm
      simp only [Prod.mk.injEq] at h
      obtain ⟨rfl, rfl, _⟩ := h
      refine ⟨by omega, ?_, ?_⟩
      · rw [List.length_take]; omega
      · rw [List.length_take, List.length_drop]; omega
theorem byteM_0 {l l' : Bs} {n : BitVec 8} {e e' : Int} (h : byteM l e = (n, l', e')) (h0 : e' = 0) : e = 0 ∧ l'.length ≤ l.length := by
  rcases hb : bytesM l e 1 with ⟨t, l1, e1⟩
  unfold byteM at h
  rw [hb] at h
  simp only [Prod.mk.injEq] at h
  obtain ⟨_, rfl, rfl⟩ := h
  have := bytesM_0 hb h0
  omega
theorem failM_0 {l l' : Bs} {e e' x : Int} (hx : x ≠ 0) (h : failM l e x = (l', e')) : e' ≠ 0 := by
  unfold failM at h
  split at h
  · rename_i q
    simp only [Prod.mk.injEq] at h
    obtain ⟨_, rfl⟩ := h
    exact q.resolve_left hx
  · simp only [Prod.mk.injEq] at h
    obtain ⟨_, rfl⟩ := h
    exact hx
theorem idM_0 {l t l' : Bs} {e e' : Int} (h : idM l e = (t, l', e')) (h0 : e' = 0) : e = 0 ∧ t.length ≤ 20 ∧ l'.length ≤ l.length := by
  rcases hb : byteM l e with ⟨n, l1, e1⟩
  unfold idM at h
  rw [hb] at h
  dsimp only at h
  by_cases hn : 20 < n.toNat
  · rw [if_pos hn] at h
    rcases hf : failM l1 e1 6 with ⟨l2, e2⟩
    rw [hf] at h
    exact absurd (bytesM_0 h h0).1 (failM_0 (by decide) hf)
  · rw [if_neg hn] at h
    have h : bytesM l1 e1 (n.toNat : Int) = (t, l', e') := h
    obtain ⟨a, b, c⟩ := bytesM_0 h h0
    have := byteM_0 hb a
    omega
theorem nextM_0 {l l' : Bs} {n : BitVec 64} {k : Nat} {b : Bool} {e e' : Int} (h : nextM l e = ((n, k, b), l', e')) (h0 : e' = 0) : e = 0 ∧ l'.length ≤ l.length := by
  unfold nextM at h
  split at h
  · rename_i q
    simp only [Prod.mk.injEq] at h
    obtain ⟨_, rfl, rfl⟩ := h
    exact ⟨h0, Nat.le_refl _⟩
  · rename_i q
    split at h
    · rename_i q2
      simp only [Prod.mk.injEq] at h
      obtain ⟨_, _, rfl⟩ := h
      exact absurd h0 q2
    · simp only [Prod.mk.injEq] at h
      obtain ⟨_, rfl, _⟩ := h
      exact ⟨by omega, by rw [List.length_drop]; omega⟩
theorem countM_0 {l l' : Bs} {n most : Nat} {e e' : Int} (h : countM l e most = (n, l', e')) (h0 : e' = 0) : e = 0 ∧ n ≤ most ∧ l'.length ≤ l.length := by
  rcases hb : nextM l e with ⟨⟨x, k, b⟩, l1, e1⟩
  unfold countM at h
  rw [hb] at h
  dsimp only at h
  split at h
  · rename_i q
    simp only [Prod.mk.injEq] at h
    obtain ⟨rfl, rfl, rfl⟩ := h
    have := nextM_0 hb h0
    omega
  · split at h
    · simp only [Prod.mk.injEq] at h
      obtain ⟨_, _, rfl⟩ := h
      exact absurd h0 (by decide)
    · simp only [Prod.mk.injEq] at h
      obtain ⟨rfl, rfl, rfl⟩ := h
      have := nextM_0 hb h0
      omega
theorem longM_0 {l t l' : Bs} {most : Nat} {e e' : Int} (h : longM l e most = (t, l', e')) (h0 : e' = 0) : e = 0 ∧ t.length ≤ most ∧ l'.length ≤ l.length := by
  rcases hb : countM l e most with ⟨n, l1, e1⟩
  unfold longM at h
  rw [hb] at h
  dsimp only at h
  obtain ⟨a, b, c⟩ := bytesM_0 h h0
  have := countM_0 hb a
  omega
theorem lenM_0 {l l' : Bs} {n : Nat} {e e' : Int} (h : lenM l e = (n, l', e')) (h0 : e' = 0) : e = 0 ∧ n ≤ l'.length ∧ l'.length ≤ l.length := by
  rcases hb : countM l e 1204 with ⟨m, l1, e1⟩
  unfold lenM at h
  rw [hb] at h
  dsimp only at h
  by_cases hn : l1.length < m
  · rw [if_pos hn] at h
    rcases hf : failM l1 e1 3 with ⟨l2, e2⟩
    rw [hf] at h
    simp only [Prod.mk.injEq] at h
    obtain ⟨_, _, rfl⟩ := h
    exact absurd h0 (failM_0 (by decide) hf)
  · rw [if_neg hn] at h
    simp only [Prod.mk.injEq] at h
    obtain ⟨rfl, rfl, rfl⟩ := h
    have := countM_0 hb h0
    omega
theorem partsM_0 {sp : BitVec 8} {l t f k l' : Bs} {n : Nat} {e e' : Int} (h : partsM sp l e = ((t, f, k, n), l', e')) (h0 : e' = 0) :
    e = 0 ∧ t.length ≤ 20 ∧ f.length ≤ 20 ∧ k.length ≤ 64 ∧ (sp ≠ 0#8 → k = []) ∧ n ≤ l'.length ∧ l'.length ≤ l.length := by
  rcases h1 : idM l e with ⟨t1, l1, e1⟩
  rcases h2 : idM l1 e1 with ⟨f1, l2, e2⟩
  unfold partsM at h
  rw [h1] at h
  dsimp only at h
  rw [h2] at h
  dsimp only at h
  by_cases hs : sp = 0#8
  · rw [if_pos hs] at h
    rcases h3 : longM l2 e2 64 with ⟨k1, l3, e3⟩
    rw [h3] at h
    dsimp only at h
    rcases h4 : lenM l3 e3 with ⟨n1, l4, e4⟩
    rw [h4] at h
    simp only [Prod.mk.injEq] at h
    obtain ⟨⟨rfl, rfl, rfl, rfl⟩, rfl, rfl⟩ := h
    have a4 := lenM_0 h4 h0
    have a3 := longM_0 h3 a4.1
    have a2 := idM_0 h2 a3.1
    have a1 := idM_0 h1 a2.1
    exact ⟨a1.1, a1.2.1, a2.2.1, a3.2.1, fun q => absurd hs q, a4.2.1, by omega⟩
  · rw [if_neg hs] at h
    dsimp only at h
    rcases h4 : lenM l2 e2 with ⟨n1, l4, e4⟩
    rw [h4] at h
    simp only [Prod.mk.injEq] at h
    obtain ⟨⟨rfl, rfl, rfl, rfl⟩, rfl, rfl⟩ := h
    have a4 := lenM_0 h4 h0
    have a2 := idM_0 h2 a4.1
    have a1 := idM_0 h1 a2.1
    exact ⟨a1.1, a1.2.1, a2.2.1, Nat.zero_le _, fun _ => rfl, a4.2.1, by omega⟩
/-- What a parsed header keeps to. -/
structure POk (b : Bs) (sp : BitVec 8) (t f k : Bs) (at_ en : Nat) : Prop where
  at1 : 1 ≤ at_
  le : at_ ≤ en
  hen : en ≤ b.length
  ht : t.length ≤ 20
  hf : f.length ≤ 20
  hk : k.length ≤ 64
  hsp : sp.toNat < 3
  k0 : sp ≠ 0#8 → k = []
  f0 : sp = 2#8 → f = []
  top : sp = 2#8 ↔ L b 0 &&& 128#8 = 0#8
def PRes (b : Bs) : PM → Prop
  | .no e => e ≠ 0
  | .ok sp t f k at_ en => POk b sp t f k at_ en
theorem parseP_any (b : Bs) (id : Int) : PRes b (parseP b id) := by
  unfold parseP
  split
  · exact (by decide : (3 : Int) ≠ 0)
  rename_i h0
  split
  · exact (by decide : (4 : Int) ≠ 0)
  split
  · rename_i h2
    unfold longP
    split
    · exact (by decide : (5 : Int) ≠ 0)
    split
    · exact (by decide : (12 : Int) ≠ 0)
    rcases hb : bytesM b 0 5 with ⟨x, l, e⟩
    dsimp only
    rcases hp : partsM (if L b 0 &&& 48#8 = 0#8 then 0#8 else 1#8) l e with ⟨⟨t, f, k, n⟩, l', e'⟩
    dsimp only
    by_cases he : e' = 0
    · rw [if_neg (fun q => q he)]
      obtain ⟨a0, a1, a2, a3, a4, a5, a6⟩ := partsM_0 hp he
      obtain ⟨b0, b1, b2⟩ := bytesM_0 hb a0
      refine ⟨by omega, by omega, by omega, a1, a2, a3, ?_, a4, ?_, ?_⟩
      · split <;> decide
      · split <;> (intro q; exact absurd q (by decide))
      · exact ⟨fun q => by split at q <;> exact absurd q (by decide), fun q => absurd q h2⟩
    · rw [if_pos he]
      exact he
  · rename_i h2
    split
    · exact (by decide : (3 : Int) ≠ 0)
    · rename_i h3
      have : idN id ≤ 20 := Nat.min_le_right _ _
      refine ⟨by omega, by omega, Nat.le_refl _, by rw [List.length_take]; omega, Nat.zero_le _, Nat.zero_le _, by decide, fun _ => rfl, fun _ => rfl, ⟨fun _ => Decidable.byContradiction h2, fun _ => rfl⟩⟩
end Vi
namespace Sx
open Sha Vi
end Sx
end Go.Proofs.YtkjdkeolkigibaaGreat
end

section
/-
  Packets shown by a header that has a number already. No condition.
-/
namespace Go.Proofs.YtkjdkeolkigibaaGreat
set_option linter.unusedVariables false
namespace Sx
open Sha Vi Aes Gcm
set_option linter.unusedSimpArgs false
abbrev psH (a b c d : Nat) (h : Hd) (at_ en : Int) : List Seg := [.one (.w8 h.sp), .one (svC a h.t), .one (svC b h.f), .one (svC c h.k), .one (.bool h.turn), .one (svC d h.n), .one (.int .i64 at_), .one (.int .i64 en)]
abbrev psA (at_ en : Int) : List Seg := [.one .any, .one .any, .one .any, .one .any, .one .any, .one .any, .one (.int .i64 at_), .one (.int .i64 en)]
set_option maxRecDepth 20000 in
set_option maxHeartbeats 8000000 in
theorem fn_shown_badA (b : Sl) (at_ en : Int) (hb : b.Ok) (hh : (-9223372036854775808 ≤ at_ ∧ at_ ≤ 9223372036854775807) ∧ -9223372036854775808 ≤ en ∧ en ≤ 9223372036854775807) (hbad : at_ < 1 ∨ (b.l.length : Int) < en ∨ en < at_ ∨ en - at_ < 20) :
    FnR Tryz.prog tds 10 2 [svB b, []] [.c (.p 1 0 0), .agg (psA at_ en), .c (svC 0 b)] (fun _ => True)
      (fun y hs => y = .tup [.c (.slc none 0 0), .agg hd0, .c (.int .i64 3)] ∧ hs = [svB b, []]) := by
  refine fn_of_body tds_ok follows_ Tryz.func10 rfl (t := .a (.c (.p 1 0 0)) :: .a (.agg (psA at_ en)) :: .a (.c (svC 0 b)) :: anys (Tryz.f10.ntmps - 3)) rfl (fun w r0 hr _ => ?_)
  obtain ⟨x0, x1, rfl⟩ := len2s hr
  have hsm := hb.small
  have fin : ∀ {es : Prop}, es → True := fun _ => trivial
  by_cases h1 : at_ < 1
  · have d1 : decide (at_ < 1) = true := decide_eq_true h1
    (repeat first | refine And.intro (by omega) ?_ | refine And.intro (by decide) ?_ | refine And.intro rfl ?_ | refine And.intro (fun _ => ?_) (fun h => Bool.noConfusion h) | refine And.intro (fun h => Bool.noConfusion h) (fun _ => ?_) | refine And.intro (fun _ => ?_) (fun h => absurd h (by rw [d1]; decide)) | refine And.intro (fun h => absurd h (by rw [d1]; decide)) (fun _ => ?_))
    refine ⟨.tup [.c (.slc none 0 0), .agg hd0, .c (.int .i64 3)], _, ⟨[0, 1], ⟨rfl, rfl, rfl⟩, ?_⟩, rfl, rfl⟩
    (repeat first | exact trivial | refine ent1 ?_)
    refine eqC_bts ?_
    exact eqSegs_nil trivial
  have d1 : decide (at_ < 1) = false := decide_eq_false h1
  by_cases h2 : (b.l.length : Int) < en
  · have d2 : decide ((b.l.length : Int) < en) = true := decide_eq_true h2
    (repeat first | refine And.intro (by omega) ?_ | refine And.intro (by decide) ?_ | refine And.intro rfl ?_ | refine And.intro (fun _ => ?_) (fun h => Bool.noConfusion h) | refine And.intro (fun h => Bool.noConfusion h) (fun _ => ?_) | refine And.intro (fun _ => ?_) (fun h => absurd h (by rw [d1]; decide)) | refine And.intro (fun h => absurd h (by rw [d1]; decide)) (fun _ => ?_) | refine And.intro (fun _ => ?_) (fun h => absurd h (by rw [d2]; decide)) | refine And.intro (fun h => absurd h (by rw [d2]; decide)) (fun _ => ?_))
    refine ⟨.tup [.c (.slc none 0 0), .agg hd0, .c (.int .i64 3)], _, ⟨[0, 1], ⟨rfl, rfl, rfl⟩, ?_⟩, rfl, rfl⟩
    (repeat first | exact trivial | refine ent1 ?_)
    refine eqC_bts ?_
    exact eqSegs_nil trivial
  have d2 : decide ((b.l.length : Int) < en) = false := decide_eq_false h2
  by_cases h3 : en < at_
  · have d3 : decide (en < at_) = true := decide_eq_true h3
    (repeat first | refine And.intro (by omega) ?_ | refine And.intro (by decide) ?_ | refine And.intro rfl ?_ | refine And.intro (fun _ => ?_) (fun h => Bool.noConfusion h) | refine And.intro (fun h => Bool.noConfusion h) (fun _ => ?_) | refine And.intro (fun _ => ?_) (fun h => absurd h (by rw [d1]; decide)) | refine And.intro (fun h => absurd h (by rw [d1]; decide)) (fun _ => ?_) | refine And.intro (fun _ => ?_) (fun h => absurd h (by rw [d2]; decide)) | refine And.intro (fun h => absurd h (by rw [d2]; decide)) (fun _ => ?_) | refine And.intro (fun _ => ?_) (fun h => absurd h (by rw [d3]; decide)) | refine And.intro (fun h => absurd h (by rw [d3]; decide)) (fun _ => ?_))
    refine ⟨.tup [.c (.slc none 0 0), .agg hd0, .c (.int .i64 3)], _, ⟨[0, 1], ⟨rfl, rfl, rfl⟩, ?_⟩, rfl, rfl⟩
    (repeat first | exact trivial | refine ent1 ?_)
    refine eqC_bts ?_
    exact eqSegs_nil trivial
  have d3 : decide (en < at_) = false := decide_eq_false h3
  have h4 : en - at_ < 20 := by omega
  have d4 : decide (en - at_ < 20) = true := decide_eq_true h4
  (repeat first | refine And.intro (by omega) ?_ | refine And.intro (by decide) ?_ | refine And.intro rfl ?_ | refine And.intro (fun _ => ?_) (fun h => Bool.noConfusion h) | refine And.intro (fun h => Bool.noConfusion h) (fun _ => ?_) | refine And.intro (fun _ => ?_) (fun h => absurd h (by rw [d1]; decide)) | refine And.intro (fun h => absurd h (by rw [d1]; decide)) (fun _ => ?_) | refine And.intro (fun _ => ?_) (fun h => absurd h (by rw [d2]; decide)) | refine And.intro (fun h => absurd h (by rw [d2]; decide)) (fun _ => ?_) | refine And.intro (fun _ => ?_) (fun h => absurd h (by rw [d3]; decide)) | refine And.intro (fun h => absurd h (by rw [d3]; decide)) (fun _ => ?_) | refine And.intro (fun _ => ?_) (fun h => absurd h (by rw [d4]; decide)) | refine And.intro (fun h => absurd h (by rw [d4]; decide)) (fun _ => ?_))
  refine ⟨.tup [.c (.slc none 0 0), .agg hd0, .c (.int .i64 3)], _, ⟨[0, 1], ⟨rfl, rfl, rfl⟩, ?_⟩, rfl, rfl⟩
  (repeat first | exact trivial | refine ent1 ?_)
  refine eqC_bts ?_
  exact eqSegs_nil trivial
theorem fn_shown_nilA (b : Sl) (at_ en : Int) :
    FnR Tryz.prog tds 10 1 [svB b] [.c (.ptr none), .agg (psA at_ en), .c (svC 0 b)] (fun _ => True)
      (fun y hs => y = .tup [.c (.slc none 0 0), .agg hd0, .c (.int .i64 1)] ∧ hs = [svB b]) := by
  refine fn_of_body tds_ok follows_ Tryz.func10 rfl (t := .a (.c (.ptr none)) :: .a (.agg (psA at_ en)) :: .a (.c (svC 0 b)) :: anys (Tryz.f10.ntmps - 3)) rfl (fun w r0 hr _ => ?_)
  obtain ⟨x0, rfl⟩ := List.length_eq_one_iff.1 hr
  (repeat first | refine And.intro (by omega) ?_ | refine And.intro (by decide) ?_ | refine And.intro rfl ?_ | refine And.intro (fun _ => ?_) (fun h => Bool.noConfusion h) | refine And.intro (fun h => Bool.noConfusion h) (fun _ => ?_))
  refine ⟨.tup [.c (.slc none 0 0), .agg hd0, .c (.int .i64 1)], _, ⟨[0], ⟨rfl, rfl, rfl⟩, ?_⟩, rfl, rfl⟩
  (repeat first | exact trivial | refine ent1 ?_)
  refine eqC_bts ?_
  (repeat first | exact trivial | refine ent1 ?_)
set_option maxRecDepth 20000 in
set_option maxHeartbeats 8000000 in
theorem fn_numberedH (h : Hd) (ho : h.Ok) (first : BitVec 8) (b : Sl) (at_ en : Int) (hb : b.Ok) : FnR Tryz.prog tds 29 5 (hdB h ++ [svB b]) [.agg (psH 0 1 2 3 h at_ en), .c (.w8 first), .c (svC 4 b)] (fun _ => True)
    (fun y hs => (b.l.length < manyB first → y = .tup [.agg hd0, .c (.int .i64 3)] ∧ hs = hdB h ++ [svB b]) ∧
      (manyB first ≤ b.l.length → noneB h.sp first ≠ 0#8 → y = .tup [.agg hd0, .c (.int .i64 4)] ∧ hs = hdB h ++ [svB b]) ∧
      (manyB first ≤ b.l.length → noneB h.sp first = 0#8 → ∃ g : Hd, g.Ok ∧ y = .tup [.agg (hdC 5 6 7 8 g), .c (.int .i64 0)] ∧ hs = hdB h ++ [svB b] ++ hdB g)) := by
  refine fn_of_body tds_ok follows_ Tryz.func29 rfl (t := .a (.agg (psH 0 1 2 3 h at_ en)) :: .a (.c (.w8 first)) :: .a (.c (svC 4 b)) :: anys (Tryz.f29.ntmps - 3)) rfl (fun w r0 hr _ => ?_)
  obtain ⟨x0, x1, x2, x3, x4, rfl⟩ := len5' hr
  have hbc := hb.cap
  have hm : (((first &&& 3#8).toNat : Nat) : Int) + 1 = ((manyB first : Nat) : Int) := rfl
  have hm1 : 1 ≤ manyB first := Nat.le_add_left _ _
  have h256 := (first &&& 3#8).isLt
  by_cases h1 : b.l.length < manyB first
  · have e1 : decide ((b.l.length : Int) < (((first &&& 3#8).toNat : Nat) : Int) + 1) = true := decide_eq_true (by rw [hm]; omega)
    (repeat first | refine And.intro (by omega) ?_ | refine And.intro (by decide) ?_ | refine And.intro rfl ?_ | refine And.intro (fun _ => ?_) (fun h => Bool.noConfusion h) | refine And.intro (fun h => Bool.noConfusion h) (fun _ => ?_) | refine And.intro (fun _ => ?_) (fun h => absurd h (by rw [e1]; decide)) | refine And.intro (fun h => absurd h (by rw [e1]; decide)) (fun _ => ?_))
    refine ⟨.tup [.agg hd0, .c (.int .i64 3)], _, ⟨[0, 1, 2, 3, 4], ⟨rfl, rfl, rfl⟩, ?_⟩, fun _ => ⟨rfl, rfl⟩, fun h => absurd h1 (by omega), fun h => absurd h1 (by omega)⟩
    (repeat first | exact trivial | refine ent1 ?_)
    refine eqC_bts (eqC_bts (eqC_bts (eqC_bts (eqC_bts ?_))))
    (repeat first | exact trivial | refine ent1 ?_)
  have e1 : decide ((b.l.length : Int) < (((first &&& 3#8).toNat : Nat) : Int) + 1) = false := decide_eq_false (by rw [hm]; omega)
  have fin : ∀ {P : Prop}, b.l.length < manyB first → P := fun h => absurd h h1
  by_cases h2 : h.sp = 2#8
  · have e2 : decide (h.sp = 2#8) = true := decide_eq_true h2
    by_cases h3 : first &&& 24#8 = 0#8
    · have e3 : decide (first &&& 24#8 ≠ 0#8) = false := decide_eq_false (fun e => e h3)
      have hno : noneB h.sp first = 0#8 := by unfold noneB; rw [if_pos h2]; exact h3
      (repeat first | refine And.intro (by omega) ?_ | refine And.intro (by decide) ?_ | refine And.intro rfl ?_ | refine And.intro (fun _ => ?_) (fun h => Bool.noConfusion h) | refine And.intro (fun h => Bool.noConfusion h) (fun _ => ?_) | refine And.intro (fun _ => ?_) (fun h => absurd h (by rw [e1]; decide)) | refine And.intro (fun h => absurd h (by rw [e1]; decide)) (fun _ => ?_) | refine And.intro (fun _ => ?_) (fun h => absurd h (by rw [e2]; decide)) | refine And.intro (fun h => absurd h (by rw [e2]; decide)) (fun _ => ?_) | refine And.intro (fun _ => ?_) (fun h => absurd h (by rw [e3]; decide)) | refine And.intro (fun h => absurd h (by rw [e3]; decide)) (fun _ => ?_))
      refine call_same (fn_hown h ho) [0, 1, 2, 3] rfl (by (repeat first | exact trivial | refine ent1 ?_)) ?_ (fun _ _ => trivial) ?_
      · refine eqC_bts (eqC_bts (eqC_bts (eqC_bts ?_)))
        (repeat first | exact trivial | refine ent1 ?_)
      rintro x hs ⟨g, hg, hq, rfl, rfl⟩
      (repeat first | refine And.intro (by omega) ?_ | refine And.intro (by decide) ?_ | (with_reducible refine frc_parts (by first | omega | decide) ?_) | (with_reducible refine frc_bytesL (by first | omega | decide) ?_) | refine And.intro rfl ?_)
      refine And.intro (show (0 : Int) ≤ 0 ∧ (0 : Int) ≤ (((first &&& 3#8).toNat : Nat) : Int) + 1 ∧ (((first &&& 3#8).toNat : Nat) : Int) + 1 ≤ (b.c : Int) by rw [hm]; omega) ?_
      refine frcN_of (m := 0) rfl ?_
      refine frcN_of (m := manyB first) (show ((((first &&& 3#8).toNat : Nat) : Int) + 1).toNat = manyB first by rw [hm]; rfl) ?_
      refine frcN_of (m := b.o) (by split <;> simp) ?_
      refine frcN_of (m := manyB first) rfl ?_
      refine frcN_of (m := b.c) rfl ?_
      (repeat first | refine And.intro (by omega) ?_ | refine And.intro (by decide) ?_ | (with_reducible refine frc_parts (by first | omega | decide) ?_) | (with_reducible refine frc_bytesL (by first | omega | decide) ?_) | refine And.intro rfl ?_)
      have lm : (b.l.take (manyB first)).length = manyB first := by rw [List.length_take]; omega
      refine call_pad (fn_clone (cutS b (manyB first)) (cutS_ok hb _)) [4] rfl ?_ ((cutS_sub b _).ent trivial) (fun _ _ => trivial) ?_
      · exact ⟨rfl, rfl, lm.symm, rfl, trivial⟩
      rintro x hs ⟨n, hn, hnl, rfl, rfl⟩
      (repeat first | refine And.intro (by omega) ?_ | refine And.intro (by decide) ?_ | refine And.intro rfl ?_ | refine And.intro (fun _ => ?_) (fun h => Bool.noConfusion h) | refine And.intro (fun h => Bool.noConfusion h) (fun _ => ?_) | refine And.intro (fun _ => ?_) (fun h => absurd h (by rw [e2]; decide)) | refine And.intro (fun h => absurd h (by rw [e2]; decide)) (fun _ => ?_))
      refine ⟨.tup [.agg (hdC 5 6 7 8 ⟨h.sp, g.t, g.f, g.k, decide (first &&& 4#8 ≠ 0#8), n⟩), .c (.int .i64 0)], _, ⟨[0, 1, 2, 3, 4, 7, 8, 9, 12], ⟨rfl, rfl, rfl⟩, ?_⟩, fin, fun _ h => absurd hno h, fun _ _ => ⟨⟨h.sp, g.t, g.f, g.k, decide (first &&& 4#8 ≠ 0#8), n⟩, ⟨hg.t, hg.f, hg.k, hn⟩, rfl, rfl⟩⟩
      (repeat first | exact trivial | refine ent1 ?_)
      refine ⟨hq.sp, ?_⟩
      (repeat first | exact trivial | refine ent1 ?_)
      refine eqC_bts (eqC_bts (eqC_bts (eqC_bts (eqC_bts ?_))))
      refine eqC_btsM (eqC_btsM (eqC_btsM (eqC_btsM ?_)))
      (repeat first | exact trivial | refine ent1 ?_)
    · have e3 : decide (first &&& 24#8 ≠ 0#8) = true := decide_eq_true h3
      have hno : noneB h.sp first ≠ 0#8 := by unfold noneB; rw [if_pos h2]; exact h3
      (repeat first | refine And.intro (by omega) ?_ | refine And.intro (by decide) ?_ | refine And.intro rfl ?_ | refine And.intro (fun _ => ?_) (fun h => Bool.noConfusion h) | refine And.intro (fun h => Bool.noConfusion h) (fun _ => ?_) | refine And.intro (fun _ => ?_) (fun h => absurd h (by rw [e1]; decide)) | refine And.intro (fun h => absurd h (by rw [e1]; decide)) (fun _ => ?_) | refine And.intro (fun _ => ?_) (fun h => absurd h (by rw [e2]; decide)) | refine And.intro (fun h => absurd h (by rw [e2]; decide)) (fun _ => ?_) | refine And.intro (fun _ => ?_) (fun h => absurd h (by rw [e3]; decide)) | refine And.intro (fun h => absurd h (by rw [e3]; decide)) (fun _ => ?_))
      refine ⟨.tup [.agg hd0, .c (.int .i64 4)], _, ⟨[0, 1, 2, 3, 4], ⟨rfl, rfl, rfl⟩, ?_⟩, fin, fun _ _ => ⟨rfl, rfl⟩, fun _ h => absurd h hno⟩
      (repeat first | exact trivial | refine ent1 ?_)
      refine eqC_bts (eqC_bts (eqC_bts (eqC_bts (eqC_bts ?_))))
      (repeat first | exact trivial | refine ent1 ?_)
  · have e2 : decide (h.sp = 2#8) = false := decide_eq_false h2
    by_cases h3 : first &&& 12#8 = 0#8
    · have e3 : decide (first &&& 12#8 ≠ 0#8) = false := decide_eq_false (fun e => e h3)
      have hno : noneB h.sp first = 0#8 := by unfold noneB; rw [if_neg h2]; exact h3
      (repeat first | refine And.intro (by omega) ?_ | refine And.intro (by decide) ?_ | refine And.intro rfl ?_ | refine And.intro (fun _ => ?_) (fun h => Bool.noConfusion h) | refine And.intro (fun h => Bool.noConfusion h) (fun _ => ?_) | refine And.intro (fun _ => ?_) (fun h => absurd h (by rw [e1]; decide)) | refine And.intro (fun h => absurd h (by rw [e1]; decide)) (fun _ => ?_) | refine And.intro (fun _ => ?_) (fun h => absurd h (by rw [e2]; decide)) | refine And.intro (fun h => absurd h (by rw [e2]; decide)) (fun _ => ?_) | refine And.intro (fun _ => ?_) (fun h => absurd h (by rw [e3]; decide)) | refine And.intro (fun h => absurd h (by rw [e3]; decide)) (fun _ => ?_))
      refine call_same (fn_hown h ho) [0, 1, 2, 3] rfl (by (repeat first | exact trivial | refine ent1 ?_)) ?_ (fun _ _ => trivial) ?_
      · refine eqC_bts (eqC_bts (eqC_bts (eqC_bts ?_)))
        (repeat first | exact trivial | refine ent1 ?_)
      rintro x hs ⟨g, hg, hq, rfl, rfl⟩
      (repeat first | refine And.intro (by omega) ?_ | refine And.intro (by decide) ?_ | (with_reducible refine frc_parts (by first | omega | decide) ?_) | (with_reducible refine frc_bytesL (by first | omega | decide) ?_) | refine And.intro rfl ?_)
      refine And.intro (show (0 : Int) ≤ 0 ∧ (0 : Int) ≤ (((first &&& 3#8).toNat : Nat) : Int) + 1 ∧ (((first &&& 3#8).toNat : Nat) : Int) + 1 ≤ (b.c : Int) by rw [hm]; omega) ?_
      refine frcN_of (m := 0) rfl ?_
      refine frcN_of (m := manyB first) (show ((((first &&& 3#8).toNat : Nat) : Int) + 1).toNat = manyB first by rw [hm]; rfl) ?_
      refine frcN_of (m := b.o) (by split <;> simp) ?_
      refine frcN_of (m := manyB first) rfl ?_
      refine frcN_of (m := b.c) rfl ?_
      (repeat first | refine And.intro (by omega) ?_ | refine And.intro (by decide) ?_ | (with_reducible refine frc_parts (by first | omega | decide) ?_) | (with_reducible refine frc_bytesL (by first | omega | decide) ?_) | refine And.intro rfl ?_)
      have lm : (b.l.take (manyB first)).length = manyB first := by rw [List.length_take]; omega
      refine call_pad (fn_clone (cutS b (manyB first)) (cutS_ok hb _)) [4] rfl ?_ ((cutS_sub b _).ent trivial) (fun _ _ => trivial) ?_
      · exact ⟨rfl, rfl, lm.symm, rfl, trivial⟩
      rintro x hs ⟨n, hn, hnl, rfl, rfl⟩
      (repeat first | refine And.intro (by omega) ?_ | refine And.intro (by decide) ?_ | refine And.intro rfl ?_ | refine And.intro (fun _ => ?_) (fun h => Bool.noConfusion h) | refine And.intro (fun h => Bool.noConfusion h) (fun _ => ?_) | refine And.intro (fun _ => ?_) (fun h => absurd h (by rw [e2]; decide)) | refine And.intro (fun h => absurd h (by rw [e2]; decide)) (fun _ => ?_))
      refine ⟨.tup [.agg (hdC 5 6 7 8 ⟨h.sp, g.t, g.f, g.k, h.turn, n⟩), .c (.int .i64 0)], _, ⟨[0, 1, 2, 3, 4, 7, 8, 9, 12], ⟨rfl, rfl, rfl⟩, ?_⟩, fin, fun _ h => absurd hno h, fun _ _ => ⟨⟨h.sp, g.t, g.f, g.k, h.turn, n⟩, ⟨hg.t, hg.f, hg.k, hn⟩, rfl, rfl⟩⟩
      (repeat first | exact trivial | refine ent1 ?_)
      refine ⟨hq.sp, ?_⟩
      (repeat first | exact trivial | refine ent1 ?_)
      refine ⟨hq.turn, ?_⟩
      (repeat first | exact trivial | refine ent1 ?_)
      refine eqC_bts (eqC_bts (eqC_bts (eqC_bts (eqC_bts ?_))))
      refine eqC_btsM (eqC_btsM (eqC_btsM (eqC_btsM ?_)))
      (repeat first | exact trivial | refine ent1 ?_)
    · have e3 : decide (first &&& 12#8 ≠ 0#8) = true := decide_eq_true h3
      have hno : noneB h.sp first ≠ 0#8 := by unfold noneB; rw [if_neg h2]; exact h3
      (repeat first | refine And.intro (by omega) ?_ | refine And.intro (by decide) ?_ | refine And.intro rfl ?_ | refine And.intro (fun _ => ?_) (fun h => Bool.noConfusion h) | refine And.intro (fun h => Bool.noConfusion h) (fun _ => ?_) | refine And.intro (fun _ => ?_) (fun h => absurd h (by rw [e1]; decide)) | refine And.intro (fun h => absurd h (by rw [e1]; decide)) (fun _ => ?_) | refine And.intro (fun _ => ?_) (fun h => absurd h (by rw [e2]; decide)) | refine And.intro (fun h => absurd h (by rw [e2]; decide)) (fun _ => ?_) | refine And.intro (fun _ => ?_) (fun h => absurd h (by rw [e3]; decide)) | refine And.intro (fun h => absurd h (by rw [e3]; decide)) (fun _ => ?_))
      refine ⟨.tup [.agg hd0, .c (.int .i64 4)], _, ⟨[0, 1, 2, 3, 4], ⟨rfl, rfl, rfl⟩, ?_⟩, fin, fun _ _ => ⟨rfl, rfl⟩, fun _ h => absurd h hno⟩
      (repeat first | exact trivial | refine ent1 ?_)
      refine eqC_bts (eqC_bts (eqC_bts (eqC_bts (eqC_bts ?_))))
      (repeat first | exact trivial | refine ent1 ?_)
set_option maxRecDepth 20000 in
set_option maxHeartbeats 8000000 in
theorem fn_shownH (h : Hd) (ho : h.Ok) (b : Sl) (hb : b.Ok) (at_ en : Nat) (h1 : 1 ≤ at_) (h2 : en ≤ b.l.length) (h3 : at_ + 20 ≤ en) (cnt : Int) (hc : 0 ≤ cnt ∧ cnt ≤ 900000000)
    (kh K2 R : Nat → BitVec 8) (hK2 : pKeys kh = K2) (hR : pTurn kh (smpB (b.l.take en) at_) = R) (f0 : BitVec 8) (hf0 : L b.l 0 ^^^ (R 0 &&& hidB h.sp) = f0) (sh : Bs) (hsh : maskL R (hidB h.sp) at_ (manyB f0) (b.l.take en) = sh) :
    FnR Tryz.prog tds 10 6 [svB h.t, svB h.f, svB h.k, svB h.n, svB b, kyM 7, tabs 1 0 boxes cnt, keyD 6 K2] [.c (.p 5 0 0), .agg (psH 0 1 2 3 h at_ en), .c (svC 4 b)] (fun _ => True)
      (fun y hs => (noneB h.sp f0 ≠ 0#8 → y = .tup [.c (.slc none 0 0), .agg hd0, .c (.int .i64 4)] ∧ hs = [svB h.t, svB h.f, svB h.k, svB h.n, svB b, kyM 7, tabs 1 0 boxes (cnt + 1), keyD 6 K2]) ∧
        (noneB h.sp f0 = 0#8 → ∃ (S : Sl) (g : Hd), S.Ok ∧ S.l = sh ∧ g.Ok ∧ y = .tup [.c (svC 8 S), .agg (hdC 9 10 11 12 g), .c (.int .i64 0)] ∧ hs = [svB h.t, svB h.f, svB h.k, svB h.n, svB b, kyM 7, tabs 1 0 boxes (cnt + 1), keyD 6 K2, svB S] ++ hdB g)) := by
  refine fn_of_body tds_ok follows_ Tryz.func10 rfl (t := .a (.c (.p 5 0 0)) :: .a (.agg (psH 0 1 2 3 h at_ en)) :: .a (.c (svC 4 b)) :: anys (Tryz.f10.ntmps - 3)) rfl (fun w r0 hr _ => ?_)
  obtain ⟨x0, x1, x2, x3, x4, x5, x6, x7, rfl⟩ := len8' hr
  have hsm := hb.small
  have hbc := hb.cap
  have d1 : decide ((at_ : Int) < 1) = false := decide_eq_false (by omega)
  have d2 : decide ((b.l.length : Int) < (en : Int)) = false := decide_eq_false (by omega)
  have d3 : decide ((en : Int) < (at_ : Int)) = false := decide_eq_false (by omega)
  have d4 : decide ((en : Int) - (at_ : Int) < 20) = false := decide_eq_false (by omega)
  (repeat first | refine And.intro rfl ?_ | refine And.intro (fun _ => ?_) (fun h => absurd h (by rw [d1]; decide)) | refine And.intro (fun h => absurd h (by rw [d1]; decide)) (fun _ => ?_) | refine And.intro (fun _ => ?_) (fun h => absurd h (by rw [d2]; decide)) | refine And.intro (fun h => absurd h (by rw [d2]; decide)) (fun _ => ?_) | refine And.intro (fun _ => ?_) (fun h => absurd h (by rw [d3]; decide)) | refine And.intro (fun h => absurd h (by rw [d3]; decide)) (fun _ => ?_) | refine And.intro (fun _ => ?_) (fun h => absurd h (by rw [d4]; decide)) | refine And.intro (fun h => absurd h (by rw [d4]; decide)) (fun _ => ?_) | refine And.intro (fun _ => ?_) (fun h => Bool.noConfusion h) | refine And.intro (fun h => Bool.noConfusion h) (fun _ => ?_) | (with_reducible refine frc_bytesL (by first | omega | decide) ?_) | (with_reducible refine frc_bytesM (by first | omega | decide) ?_) | refine And.intro (by decide) ?_ | refine And.intro (by omega) ?_)
  have lm : (b.l.take en).length = en := by rw [List.length_take]; omega
  refine call_pad (fn_bclone (cutS b en) (cutS_ok hb _)) [4] rfl ?_ ((cutS_sub b _).ent trivial) (fun _ _ => trivial) ?_
  · exact ⟨rfl, (show (if b.c = 0 then b.o else b.o + 0 * 1) = b.o by split <;> simp), lm.symm, rfl, trivial⟩
  rintro x hs ⟨S, hS, hSl, rfl, rfl⟩
  have hSl : S.l = b.l.take en := hSl
  have hSn : S.l.length = en := by rw [hSl, lm]
  have hSz : S.z = false := hS.pos (by omega)
  have hSf := hS.fit
  have hSc := hS.cap
  (repeat first | refine And.intro rfl ?_ | refine And.intro (fun _ => ?_) (fun h => Bool.noConfusion h) | refine And.intro (fun h => Bool.noConfusion h) (fun _ => ?_) | (with_reducible refine frc_bytesL (by first | omega | decide) ?_) | (with_reducible refine frc_bytesM (by first | omega | decide) ?_) | refine And.intro (by decide) ?_ | refine And.intro (by omega) ?_)
  refine call_same (fn_maskOf S hS at_ (by omega) cnt kh K2 R hK2 (by rw [hSl]; exact hR) hc) [10, 5, 6, 7] rfl (by (repeat first | exact trivial | refine ent1 ?_)) ?_ (fun _ _ => trivial) ?_
  · refine eqC_btsM ?_
    (repeat first | exact trivial | refine ent1 ?_)
  rintro x hs ⟨rfl, rfl⟩
  rw [svB_row hSz]
  (repeat first | refine And.intro rfl ?_ | refine And.intro (fun _ => ?_) (fun h => Bool.noConfusion h) | refine And.intro (fun h => Bool.noConfusion h) (fun _ => ?_) | (with_reducible refine frc_bytesL (by first | omega | decide) ?_) | (with_reducible refine frc_bytesM (by first | omega | decide) ?_) | refine And.intro (by decide) ?_ | refine And.intro (by omega) ?_)
  refine ⟨some [8, 10, 11], [], [(0, true), (1, true), (2, true), (3, true), (4, true), (5, true), (6, true), (7, true), (8, false), (9, true), (10, true), (11, true)], [12], by kernel_rfl, ?_⟩
  (repeat first | refine And.intro rfl ?_ | refine And.intro (fun _ => ?_) (fun h => Bool.noConfusion h) | refine And.intro (fun h => Bool.noConfusion h) (fun _ => ?_) | (with_reducible refine frc_bytesL (by first | omega | decide) ?_) | (with_reducible refine frc_bytesM (by first | omega | decide) ?_) | refine And.intro (by decide) ?_ | refine And.intro (by omega) ?_)
  refine frc_winM 0 rfl (show 0 < S.l.length by omega) ?_
  (repeat first | refine And.intro rfl ?_ | refine And.intro (fun _ => ?_) (fun h => Bool.noConfusion h) | refine And.intro (fun h => Bool.noConfusion h) (fun _ => ?_) | (with_reducible refine frc_bytesL (by first | omega | decide) ?_) | (with_reducible refine frc_bytesM (by first | omega | decide) ?_) | refine And.intro (by decide) ?_ | refine And.intro (by omega) ?_)
  refine call_same (fn_hidden h.sp) [] rfl (by (repeat first | exact trivial | refine ent1 ?_)) trivial (fun _ _ => trivial) ?_
  rintro x hs ⟨rfl, rfl⟩
  (repeat first | refine And.intro rfl ?_ | refine And.intro (fun _ => ?_) (fun h => Bool.noConfusion h) | refine And.intro (fun h => Bool.noConfusion h) (fun _ => ?_) | (with_reducible refine frc_bytesL (by first | omega | decide) ?_) | (with_reducible refine frc_bytesM (by first | omega | decide) ?_) | refine And.intro (by decide) ?_ | refine And.intro (by omega) ?_)
  have e0 : L S.l 0 ^^^ (R (Int.toNat 0 + 0) &&& hidB h.sp) = f0 := by rw [hSl, L_take _ _ _ (by omega)]; exact hf0
  refine frc_eq (y := .w8 f0) (by unfold upd; rw [if_pos rfl, e0]) ?_
  have hm4 : manyB f0 ≤ 4 := many_le f0
  have hm1 : 1 ≤ manyB f0 := Nat.le_add_left _ _
  obtain ⟨m, hm⟩ : ∃ m, manyB f0 = m := ⟨_, rfl⟩
  have hmI : ((f0 &&& 3#8).toNat : Int) + 1 = (m : Int) := by rw [← hm]; rfl
  (repeat first | refine And.intro rfl ?_ | refine And.intro (fun _ => ?_) (fun h => Bool.noConfusion h) | refine And.intro (fun h => Bool.noConfusion h) (fun _ => ?_) | (with_reducible refine frc_bytesL (by first | omega | decide) ?_) | (with_reducible refine frc_bytesM (by first | omega | decide) ?_) | refine And.intro (by decide) ?_ | refine And.intro (by omega) ?_)
  refine .inl ⟨Nat, fun k => ⟨[.any, .any, .any, .any, .a (.c (.p 8 0 0)), .any, .any, .a (.c (.p 9 0 0)), .any, .a (.c (svC 10 S)), .a (.c (.p 11 0 0)), .any, .any, .any, .any, .any, .any, .any, .any, .any, .any, .any, .any, .any, .any, .any, .any, .any, .any, .any, .any, .any, .any, .any, .any, .any, .any, .any, .any, .any, .any, .any, .any, .any, .any, .any, .any, .any, .any, .any, .any, .any, .any, .any, .any, .any, .any, .any, .any, .any, .any, .any, .any, .any, .any, .any, .any, .any, .any, .any, .any, .any, .a (.c (.int .i64 (↑m))), .a (.c (.int .i64 (↑k))), .any, .any, .any, .any, .any, .any, .any, .any, .any, .any, .any, .any, .any, .any, .any, .any, .any, .any, .any, .any, .any, .any, .any, .any, .any, .any, .any, .any, .any, .any, .any, .any, .any, .any, .any], [svB h.t, svB h.f, svB h.k, svB h.n, svB b, kyM 7, tabs 1 0 boxes (cnt + 1), keyD 6 K2, psH 0 1 2 3 h at_ en, hd0, [.row S.N (winF S.o S.l.length (L (maskL R (hidB h.sp) at_ k S.l)))], [.row 5 fun i => .w8 (R i)]]⟩, fun k => k ≤ m, fun k => m - k, ⟨0, [0, 1, 2, 3, 4, 5, 6, 7, 8, 9, 10, 11], ⟨⟨rfl, rfl, rfl⟩, ?_⟩, by omega⟩, fun k hk => ⟨fun hlp => ?_, fun hlp => ?_⟩⟩
  · (repeat first | exact trivial | refine ent1 ?_)
    refine eqC_bts (eqC_bts (eqC_bts (eqC_bts (eqC_bts ?_))))
    (repeat first | exact trivial | refine ent1 ?_)
    refine ⟨fun j hj => eqC_win (fun i hi => mask_start rfl (by omega) (Nat.zero_add _) rfl i hi) j, ?_⟩
    (repeat first | exact trivial | refine ent1 ?_)
  · have hlt : k < m := by have : (k : Int) < (m : Int) := of_decide_eq_true hlp; omega
    (repeat first | refine And.intro rfl ?_ | refine And.intro (fun _ => ?_) (fun h => Bool.noConfusion h) | refine And.intro (fun h => Bool.noConfusion h) (fun _ => ?_) | (with_reducible refine frc_bytesL (by first | omega | decide) ?_) | (with_reducible refine frc_bytesM (by first | omega | decide) ?_) | refine And.intro (by decide) ?_ | refine And.intro (by omega) ?_)
    refine ⟨some [8, 10, 11], [], [(0, true), (1, true), (2, true), (3, true), (4, true), (5, true), (6, true), (7, true), (8, true), (9, true), (10, true), (11, true), (12, true)], [13], by kernel_rfl, ?_⟩
    (repeat first | refine And.intro rfl ?_ | refine And.intro (fun _ => ?_) (fun h => Bool.noConfusion h) | refine And.intro (fun h => Bool.noConfusion h) (fun _ => ?_) | (with_reducible refine frc_bytesL (by first | omega | decide) ?_) | (with_reducible refine frc_bytesM (by first | omega | decide) ?_) | refine And.intro (by decide) ?_ | refine And.intro (by omega) ?_)
    with_reducible refine frc_winA (at_ + k) (show ((at_ : Int) + (k : Int)).toNat + S.o = at_ + k + S.o by omega) (by omega) ?_
    (repeat first | refine And.intro rfl ?_ | refine And.intro (fun _ => ?_) (fun h => Bool.noConfusion h) | refine And.intro (fun h => Bool.noConfusion h) (fun _ => ?_) | (with_reducible refine frc_bytesL (by first | omega | decide) ?_) | (with_reducible refine frc_bytesM (by first | omega | decide) ?_) | refine And.intro (by decide) ?_ | refine And.intro (by omega) ?_)
    refine ⟨k + 1, [0, 1, 2, 3, 4, 5, 6, 7, 8, 9, 10, 11], ⟨⟨rfl, rfl, rfl⟩, ?_⟩, by dsimp only; omega, by dsimp only; omega⟩
    (repeat first | exact trivial | refine ent1 ?_)
    refine eqC_bts (eqC_bts (eqC_bts (eqC_bts (eqC_bts ?_))))
    (repeat first | exact trivial | refine ent1 ?_)
    refine ⟨fun j hj => eqC_win (fun i hi => mask_step rfl h1 (by omega) (show ((at_ : Int) + (k : Int)).toNat + S.o = S.o + (at_ + k) by omega) (by rw [show 1 + k = (1 + (k : Int)).toNat + 0 by omega]) i hi) j, ?_⟩
    (repeat first | exact trivial | refine ent1 ?_)
  · obtain rfl : k = m := by have : ¬ (k : Int) < (m : Int) := of_decide_eq_false hlp; have hk : k ≤ m := hk; omega
    have hB : maskL R (hidB h.sp) at_ k S.l = sh := by rw [hSl, ← hsh, hm]
    have hsl : sh.length = en := by rw [← hB, maskL_len, hSn]
    rw [hB]
    have hs0 : L sh 0 = f0 := by rw [← hB, maskL_at (by omega), if_pos rfl]; exact e0
    refine ⟨some [8, 10], [12], [(0, true), (1, true), (2, true), (3, true), (4, true), (5, true), (6, true), (7, true), (8, false), (9, true), (10, true), (11, true), (12, false)], [13, 14], by kernel_rfl, ?_⟩
    (repeat first | refine And.intro rfl ?_ | refine And.intro (fun _ => ?_) (fun h => Bool.noConfusion h) | refine And.intro (fun h => Bool.noConfusion h) (fun _ => ?_) | (with_reducible refine frc_bytesL (by first | omega | decide) ?_) | (with_reducible refine frc_bytesM (by first | omega | decide) ?_) | refine And.intro (by decide) ?_ | refine And.intro (by omega) ?_)
    with_reducible refine frc_winA 0 rfl (by omega) ?_
    rw [hs0]
    (repeat first | refine And.intro rfl ?_ | refine And.intro (fun _ => ?_) (fun h => Bool.noConfusion h) | refine And.intro (fun h => Bool.noConfusion h) (fun _ => ?_) | (with_reducible refine frc_bytesL (by first | omega | decide) ?_) | (with_reducible refine frc_bytesM (by first | omega | decide) ?_) | refine And.intro (by decide) ?_ | refine And.intro (by omega) ?_)
    have ld : (sh.drop at_).length = en - at_ := by rw [List.length_drop, hsl]
    have oD : Sl.Ok ⟨S.z, S.N, S.o + at_, S.c - at_, sh.drop at_⟩ := ⟨(by show S.o + at_ + (sh.drop at_).length ≤ S.N; omega), (by show (sh.drop at_).length ≤ S.c - at_; omega), (fun h => by rw [hSz] at h; cases h), (by show (sh.drop at_).length ≤ 1000000; omega)⟩
    refine call_same (fn_numberedH h ho f0 ⟨S.z, S.N, S.o + at_, S.c - at_, sh.drop at_⟩ at_ en oD) [0, 1, 2, 3, 10] rfl ?_ ?_ (fun _ _ => trivial) ?_
    · (repeat first | exact trivial | refine ent1 ?_)
      exact ⟨(show (if S.c = at_ then S.o else S.o + at_ * 1) = S.o + at_ by rw [if_neg (by omega), Nat.mul_one]), (show S.l.length - at_ = (sh.drop at_).length by omega), rfl, trivial⟩
    · refine eqC_bts (eqC_bts (eqC_bts (eqC_bts ?_)))
      rw [svB_row (s := ⟨S.z, S.N, S.o + at_, S.c - at_, sh.drop at_⟩) hSz]
      refine ⟨rfl, fun j hj => eqC_win (fun q hq => ?_) j, trivial⟩
      have hq : q < en - at_ := by rw [← ld]; exact hq
      have := winF_at S.o S.l.length (L sh) (i := at_ + q) (by omega)
      rw [← Nat.add_assoc] at this
      rw [this, L_drop]
    rintro x hs' ⟨-, hno, hyes⟩
    rw [hm] at hno hyes
    by_cases hn : noneB h.sp f0 = 0#8
    rotate_left
    · obtain ⟨rfl, rfl⟩ := hno (by show k ≤ (sh.drop at_).length; omega) hn
      (repeat first | refine And.intro rfl ?_ | refine And.intro (fun _ => ?_) (fun h => Bool.noConfusion h) | refine And.intro (fun h => Bool.noConfusion h) (fun _ => ?_) | (with_reducible refine frc_bytesL (by first | omega | decide) ?_) | (with_reducible refine frc_bytesM (by first | omega | decide) ?_) | refine And.intro (by decide) ?_ | refine And.intro (by omega) ?_)
      refine ⟨.tup [.c (.slc none 0 0), .agg hd0, .c (.int .i64 4)], _, ⟨[0, 1, 2, 3, 4, 5, 6, 7], ⟨rfl, rfl, rfl⟩, ?_⟩, fun _ => ⟨rfl, rfl⟩, fun h => absurd h hn⟩
      (repeat first | exact trivial | refine ent1 ?_)
      refine eqC_bts (eqC_bts (eqC_bts (eqC_bts (eqC_bts ?_))))
      (repeat first | exact trivial | refine ent1 ?_)
    · obtain ⟨g, hg, rfl, rfl⟩ := hyes (by show k ≤ (sh.drop at_).length; omega) hn
      (repeat first | refine And.intro rfl ?_ | refine And.intro (fun _ => ?_) (fun h => Bool.noConfusion h) | refine And.intro (fun h => Bool.noConfusion h) (fun _ => ?_) | (with_reducible refine frc_bytesL (by first | omega | decide) ?_) | (with_reducible refine frc_bytesM (by first | omega | decide) ?_) | refine And.intro (by decide) ?_ | refine And.intro (by omega) ?_)
      refine call_same (fn_sown g hg) [12, 13, 14, 15] rfl (by (repeat first | exact trivial | refine ent1 ?_)) ?_ (fun _ _ => trivial) ?_
      · refine eqC_btsM (eqC_btsM (eqC_btsM (eqC_btsM ?_)))
        (repeat first | exact trivial | refine ent1 ?_)
      rintro x hs' ⟨g', hg', hq, rfl, rfl⟩
      (repeat first | refine And.intro rfl ?_ | refine And.intro (fun _ => ?_) (fun h => Bool.noConfusion h) | refine And.intro (fun h => Bool.noConfusion h) (fun _ => ?_) | (with_reducible refine frc_bytesL (by first | omega | decide) ?_) | (with_reducible refine frc_bytesM (by first | omega | decide) ?_) | refine And.intro (by decide) ?_ | refine And.intro (by omega) ?_)
      refine ⟨.tup [.c (svC 8 ⟨S.z, S.N, S.o, S.c, sh⟩), .agg (hdC 9 10 11 12 g'), .c (.int .i64 0)], [svB h.t, svB h.f, svB h.k, svB h.n, svB b, kyM 7, tabs 1 0 boxes (cnt + 1), keyD 6 K2, svB ⟨S.z, S.N, S.o, S.c, sh⟩] ++ hdB g', ⟨[0, 1, 2, 3, 4, 5, 6, 7, 10, 17, 18, 19, 20], ⟨rfl, rfl, rfl⟩, ?_⟩, fun h => absurd hn h, fun _ => ⟨⟨S.z, S.N, S.o, S.c, sh⟩, g', ⟨(by show S.o + sh.length ≤ S.N; omega), (by show sh.length ≤ S.c; omega), (fun h => by rw [hSz] at h; cases h), (by show sh.length ≤ 1000000; omega)⟩, rfl, hg', rfl, rfl⟩⟩
      (repeat first | exact trivial | refine ent1 ?_)
      refine ⟨(show S.l.length = sh.length by omega), rfl, ?_⟩
      (repeat first | exact trivial | refine ent1 ?_)
      refine eqC_bts (eqC_bts (eqC_bts (eqC_bts (eqC_bts ?_))))
      rw [svB_row (s := ⟨S.z, S.N, S.o, S.c, sh⟩) hSz]
      (repeat first | exact trivial | refine ent1 ?_)
      refine ⟨fun j hj => eqC_win (fun i hi => winF_at S.o S.l.length (L sh) (by have hi : i < sh.length := hi; omega)) j, ?_⟩
      refine eqC_btsM (eqC_btsM (eqC_btsM (eqC_btsM ?_)))
      (repeat first | exact trivial | refine ent1 ?_)
end Sx
end Go.Proofs.YtkjdkeolkigibaaGreat
end

section
/-
  The law of any bytes, shown and opened. No condition.
-/
namespace Go.Proofs.YtkjdkeolkigibaaGreat
set_option linter.unusedVariables false
namespace Sx
open Sha Vi Aes Gcm
set_option linter.unusedSimpArgs false
set_option maxRecDepth 20000 in
set_option maxHeartbeats 16000000 in
theorem fn_sealAny (s : Bs) (hs : s.length = 32) (b : Sl) (hb : b.Fit) (id gr : Int) (hgr : -9223372036854775808 ≤ gr ∧ gr ≤ 9223372036854775807) :
    FnR Tryz.prog tds 3 1 [svB b] [.agg [.row 32 fun i => .w8 (L s i)], .c (svC 0 b), .c (.int .i64 id), .c (.int .i64 gr)] (fun _ => True) (fun x _ => x = .a (.c (.bool true))) := by
  refine fn_of_body tds_ok follows_ Tryz.func3 rfl (t := .a (.agg [.row 32 fun i => .w8 (L s i)]) :: .a (.c (svC 0 b)) :: .a (.c (.int .i64 id)) :: .a (.c (.int .i64 gr)) :: anys (Tryz.f3.ntmps - 4)) rfl (fun w r0 hr _ => ?_)
  obtain ⟨x0, rfl⟩ := List.length_eq_one_iff.1 hr
  (repeat first | (refine And.intro ?_ ?_; first | exact rfl | ((exact fun h => absurd h (by first | decide)); intro _) | (rotate_left; (exact fun h => absurd h (by first | decide)); intro _) | decide | omega) | (with_reducible refine frc_bytesL (by first | omega | decide) ?_) | (with_reducible refine frc_bytesM (by first | omega | decide) ?_))
  refine call_same fn_awake12 [] rfl trivial trivial (fun _ _ => trivial) ?_
  rintro x hs' ⟨rfl, rfl⟩
  (repeat first | (refine And.intro ?_ ?_; first | exact rfl | ((exact fun h => absurd h (by first | decide)); intro _) | (rotate_left; (exact fun h => absurd h (by first | decide)); intro _) | decide | omega) | (with_reducible refine frc_bytesL (by first | omega | decide) ?_) | (with_reducible refine frc_bytesM (by first | omega | decide) ?_))
  by_cases lb : 300 < b.l.length
  · have e1 : decide ((300 : Int) < (b.l.length : Int)) = true := decide_eq_true (by omega)
    (repeat first | (refine And.intro ?_ ?_; first | exact rfl | ((exact fun h => absurd h (by first | decide | (rw [e1]; decide))); intro _) | (rotate_left; (exact fun h => absurd h (by first | decide | (rw [e1]; decide))); intro _) | decide | omega) | (with_reducible refine frc_bytesL (by first | omega | decide) ?_) | (with_reducible refine frc_bytesM (by first | omega | decide) ?_))
    refine ⟨.a (.c (.bool true)), [[]], ⟨[0], ⟨rfl, rfl, rfl⟩, ?_⟩, rfl⟩
    (repeat first | exact trivial | refine ent1 ?_)
    exact eqSegs_nil trivial
  have e1 : decide ((300 : Int) < (b.l.length : Int)) = false := decide_eq_false (by omega)
  have oB := hb.ok (by omega)
  obtain ⟨kq, hkq⟩ : ∃ v, exF s (labT qKey [] 16) = v := ⟨_, rfl⟩
  obtain ⟨iv, hiv⟩ : ∃ v, exF s (labT qIv [] 12) = v := ⟨_, rfl⟩
  obtain ⟨kh, hkh⟩ : ∃ v, exF s (labT qHp [] 16) = v := ⟨_, rfl⟩
  obtain ⟨K, hK⟩ : ∃ v, pKeys kq = v := ⟨_, rfl⟩
  obtain ⟨K2, hK2⟩ : ∃ v, pKeys kh = v := ⟨_, rfl⟩
  obtain ⟨E, hE⟩ : ∃ v, pTurn kq = v := ⟨_, rfl⟩
  obtain ⟨HH, hHH⟩ : ∃ H, toE (E fun _ => 0#8) = H := ⟨_, rfl⟩
  (repeat first | (refine And.intro ?_ ?_; first | exact rfl | ((exact fun h => absurd h (by first | decide | (rw [e1]; decide))); intro _) | (rotate_left; (exact fun h => absurd h (by first | decide | (rw [e1]; decide))); intro _) | decide | omega) | (with_reducible refine frc_bytesL (by first | omega | decide) ?_) | (with_reducible refine frc_bytesM (by first | omega | decide) ?_))
  refine ⟨some [1], [], [(1, true), (0, false), (2, false), (3, true)], [], by kernel_rfl, ?_⟩
  (repeat first | (refine And.intro ?_ ?_; first | exact rfl | ((exact fun h => absurd h (by first | decide)); intro _) | (rotate_left; (exact fun h => absurd h (by first | decide)); intro _) | decide | omega) | (with_reducible refine frc_bytesL (by first | omega | decide) ?_) | (with_reducible refine frc_bytesM (by first | omega | decide) ?_))
  refine call_same fn_keysNew [] rfl trivial trivial (fun _ _ => trivial) ?_
  rintro x hs' ⟨rfl, rfl⟩
  (repeat first | (refine And.intro ?_ ?_; first | exact rfl | ((exact fun h => absurd h (by first | decide)); intro _) | (rotate_left; (exact fun h => absurd h (by first | decide)); intro _) | decide | omega) | (with_reducible refine frc_bytesL (by first | omega | decide) ?_) | (with_reducible refine frc_bytesM (by first | omega | decide) ?_))
  refine call_same (fn_kOf s 0 (fun _ => 0#32) (fun _ => 0#32) (.inl rfl) hs 0 (fun _ => 0#8) 0 (.inl rfl) (by omega) kq K kh K2 iv E HH hkq hiv hkh hK hE hHH hK2) [4, 2, 3] rfl (by (repeat first | exact trivial | refine ent1 ?_)) (by (repeat first | exact trivial | refine ent1 ?_)) (fun _ _ => trivial) ?_
  rintro x hs' ⟨dn, f, g, hd, rfl, rfl⟩
  (repeat first | (refine And.intro ?_ ?_; first | exact rfl | ((exact fun h => absurd h (by first | decide)); intro _) | (rotate_left; (exact fun h => absurd h (by first | decide)); intro _) | decide | omega) | (with_reducible refine frc_bytesL (by first | omega | decide) ?_) | (with_reducible refine frc_bytesM (by first | omega | decide) ?_))
  refine call_same (fn_parse b oB id) [0] rfl (by (repeat first | exact trivial | refine ent1 ?_)) ?_ (fun _ _ => trivial) ?_
  · refine eqC_bts ?_
    (repeat first | exact trivial | refine ent1 ?_)
  rintro x hs' hres
  have hany := parseP_any b.l id
  cases hP : parseP b.l id with
  | no e =>
    rw [hP] at hres hany
    obtain ⟨rfl, rfl⟩ := hres
    have hne : decide (e ≠ 0) = true := decide_eq_true hany
    (repeat first | (refine And.intro ?_ ?_; first | exact rfl | ((exact fun h => absurd h (by first | decide | (rw [hne]; decide))); intro _) | (rotate_left; (exact fun h => absurd h (by first | decide | (rw [hne]; decide))); intro _) | decide | omega) | (with_reducible refine frc_bytesL (by first | omega | decide) ?_) | (with_reducible refine frc_bytesM (by first | omega | decide) ?_))
    refine ⟨.a (.c (.bool true)), [[]], ⟨[0], ⟨rfl, rfl, rfl⟩, ?_⟩, rfl⟩
    (repeat first | exact trivial | refine ent1 ?_)
    exact eqSegs_nil trivial
  | ok sp t f k at_ en =>
    rw [hP] at hres hany
    obtain ⟨T, F, KK, hT, hF, hKK, eT, eF, eK, rfl, rfl⟩ := hres
    have h1 : 1 ≤ at_ := hany.at1
    have h2 : en ≤ b.l.length := hany.hen
    have hle : at_ ≤ en := hany.le
    (repeat first | (refine And.intro ?_ ?_; first | exact rfl | ((exact fun h => absurd h (by first | decide)); intro _) | (rotate_left; (exact fun h => absurd h (by first | decide)); intro _) | decide | omega) | (with_reducible refine frc_bytesL (by first | omega | decide) ?_) | (with_reducible refine frc_bytesM (by first | omega | decide) ?_))
    by_cases h3 : at_ + 20 ≤ en
    rotate_left
    · have e20 : decide (20 ≤ (en : Int) - (at_ : Int)) = false := decide_eq_false (by omega)
      refine call_same (fn_shown_badA b at_ en oB (by omega) (by omega)) [0, 5] rfl (by (repeat first | exact trivial | refine ent1 ?_)) ?_ (fun _ _ => trivial) ?_
      · refine eqC_bts ?_
        exact eqSegs_nil trivial
      rintro x hs' ⟨rfl, rfl⟩
      (repeat first | (refine And.intro ?_ ?_; first | exact rfl | ((exact fun h => absurd h (by first | decide)); intro _) | (rotate_left; (exact fun h => absurd h (by first | decide)); intro _) | decide | omega) | (with_reducible refine frc_bytesL (by first | omega | decide) ?_) | (with_reducible refine frc_bytesM (by first | omega | decide) ?_))
      refine call_same (fn_unprotect_bad sp T F KK b at_ en gr oB (by omega) (by omega)) [9, 10, 11, 0, 5] rfl (by (repeat first | exact trivial | refine ent1 ?_)) ?_ (fun _ _ => trivial) ?_
      · refine eqC_btsM (eqC_btsM (eqC_btsM ?_))
        refine eqC_bts ?_
        exact eqSegs_nil trivial
      rintro x hs' ⟨rfl, rfl⟩
      (repeat first | (refine And.intro ?_ ?_; first | exact rfl | ((exact fun h => absurd h (by first | decide | (rw [e20]; decide))); intro _) | (rotate_left; (exact fun h => absurd h (by first | decide | (rw [e20]; decide))); intro _) | decide | omega) | (with_reducible refine frc_bytesL (by first | omega | decide) ?_) | (with_reducible refine frc_bytesM (by first | omega | decide) ?_))
      refine ⟨.a (.c (.bool true)), [[]], ⟨[0], ⟨rfl, rfl, rfl⟩, ?_⟩, rfl⟩
      (repeat first | exact trivial | refine ent1 ?_)
      exact eqSegs_nil trivial
    have e20 : decide (20 ≤ (en : Int) - (at_ : Int)) = true := decide_eq_true (by omega)
    obtain ⟨R2, hR2⟩ : ∃ R, pTurn kh (smpB (b.l.take en) at_) = R := ⟨_, rfl⟩
    obtain ⟨f0, hf0⟩ : ∃ f0, L b.l 0 ^^^ (R2 0 &&& hidB sp) = f0 := ⟨_, rfl⟩
    obtain ⟨m, hm⟩ : ∃ m, manyB f0 = m := ⟨_, rfl⟩
    obtain ⟨sh, hsh⟩ : ∃ sh, maskL R2 (hidB sp) at_ m (b.l.take en) = sh := ⟨_, rfl⟩
    have lB : (b.l.take en).length = en := by rw [List.length_take]; omega
    have hsl : sh.length = en := by rw [← hsh, maskL_len, lB]
    have hm4 : m ≤ 4 := by rw [← hm]; exact many_le f0
    have hm1 : 1 ≤ m := by rw [← hm]; exact Nat.le_add_left _ _
    have ln : ((sh.drop at_).take m).length = m := by rw [List.length_take, List.length_drop]; omega
    obtain ⟨full, hfull⟩ : ∃ v, BitVec.ofNat 64 (wholeN ((sh.drop at_).take m) (gr + 1).toNat) = v := ⟨_, rfl⟩
    obtain ⟨A, hA⟩ : ∃ v, sh.take (at_ + m) = v := ⟨_, rfl⟩
    obtain ⟨C, hC⟩ : ∃ v, sh.drop (at_ + m) = v := ⟨_, rfl⟩
    obtain ⟨TT, hTT⟩ : ∃ v, tagB E HH (nonB iv full) A (C.take (en - (at_ + m) - 16)) = v := ⟨_, rfl⟩
    obtain ⟨PP, hPP⟩ : ∃ v, cryL E (nonB iv full) (C.take (en - (at_ + m) - 16)) = v := ⟨_, rfl⟩
    refine call_same (fn_shown sp T F KK b hT hF hKK oB at_ en h1 h2 h3 (0 + 1) (by omega) kh K2 R2 hK2 hR2 f0 hf0 sh (by rw [hm]; exact hsh)) [9, 10, 11, 0, 5, 3, 8] rfl (by (repeat first | exact trivial | refine ent1 ?_)) ?_ (fun _ _ => trivial) ?_
    · refine eqC_btsM (eqC_btsM (eqC_btsM ?_))
      refine eqC_bts ?_
      (repeat first | exact trivial | refine ent1 ?_)
    rintro x hs' ⟨hno, hyes⟩
    by_cases hn0 : noneB sp f0 = 0#8
    rotate_left
    · obtain ⟨rfl, rfl⟩ := hno hn0
      (repeat first | (refine And.intro ?_ ?_; first | exact rfl | ((exact fun h => absurd h (by first | decide)); intro _) | (rotate_left; (exact fun h => absurd h (by first | decide)); intro _) | decide | omega) | (with_reducible refine frc_bytesL (by first | omega | decide) ?_) | (with_reducible refine frc_bytesM (by first | omega | decide) ?_))
      refine call_same (fn_unprotect sp T F KK b hT hF hKK oB at_ en gr hgr h1 h2 h3 (0 + 1 + 1) (by omega) kq kh K K2 iv R2 E HH hK hE hK2 hR2 f0 hf0 m hm sh hsh full hfull A C PP hA hC TT hTT hPP) [9, 10, 11, 0, 5, 3, 6, 7, 8] rfl (by (repeat first | exact trivial | refine ent1 ?_)) ?_ (fun _ _ => trivial) ?_
      · refine eqC_btsM (eqC_btsM (eqC_btsM ?_))
        refine eqC_bts ?_
        (repeat first | exact trivial | refine ent1 ?_)
      rintro x hs' ⟨r1, r2, r3, r4⟩
      obtain ⟨rfl, rfl⟩ := r1 hn0
      (repeat first | (refine And.intro ?_ ?_; first | exact rfl | ((exact fun h => absurd h (by first | decide | (rw [e20]; decide))); intro _) | (rotate_left; (exact fun h => absurd h (by first | decide | (rw [e20]; decide))); intro _) | decide | omega) | (with_reducible refine frc_bytesL (by first | omega | decide) ?_) | (with_reducible refine frc_bytesM (by first | omega | decide) ?_))
      refine ⟨.a (.c (.bool true)), [[]], ⟨[0], ⟨rfl, rfl, rfl⟩, ?_⟩, rfl⟩
      (repeat first | exact trivial | refine ent1 ?_)
      exact eqSegs_nil trivial
    obtain ⟨SS, gg, oS, -, og, -, -, -, -, -, -, rfl, rfl⟩ := hyes hn0
    (repeat first | (refine And.intro ?_ ?_; first | exact rfl | ((exact fun h => absurd h (by first | decide)); intro _) | (rotate_left; (exact fun h => absurd h (by first | decide)); intro _) | decide | omega) | (with_reducible refine frc_bytesL (by first | omega | decide) ?_) | (with_reducible refine frc_bytesM (by first | omega | decide) ?_))
    refine call_same (fn_unprotect sp T F KK b hT hF hKK oB at_ en gr hgr h1 h2 h3 (0 + 1 + 1) (by omega) kq kh K K2 iv R2 E HH hK hE hK2 hR2 f0 hf0 m hm sh hsh full hfull A C PP hA hC TT hTT hPP) [9, 10, 11, 0, 5, 3, 6, 7, 8] rfl (by (repeat first | exact trivial | refine ent1 ?_)) ?_ (fun _ _ => trivial) ?_
    · refine eqC_btsM (eqC_btsM (eqC_btsM ?_))
      refine eqC_bts ?_
      (repeat first | exact trivial | refine ent1 ?_)
    rintro x hs' ⟨r1, r2, r3, r4⟩
    by_cases hg : 4611686018427387903 ≤ gr
    · obtain ⟨rfl, rfl⟩ := r2 hn0 hg
      (repeat first | (refine And.intro ?_ ?_; first | exact rfl | ((exact fun h => absurd h (by first | decide | (rw [e20]; decide))); intro _) | (rotate_left; (exact fun h => absurd h (by first | decide | (rw [e20]; decide))); intro _) | decide | omega) | (with_reducible refine frc_bytesL (by first | omega | decide) ?_) | (with_reducible refine frc_bytesM (by first | omega | decide) ?_))
      refine ⟨.a (.c (.bool true)), [[]], ⟨[0], ⟨rfl, rfl, rfl⟩, ?_⟩, rfl⟩
      (repeat first | exact trivial | refine ent1 ?_)
      exact eqSegs_nil trivial
    by_cases ht : ∀ i, i < 16 → L C (en - (at_ + m) - 16 + i) = TT i
    rotate_left
    · obtain ⟨rfl, rfl⟩ := r3 hn0 (by omega) ht
      (repeat first | (refine And.intro ?_ ?_; first | exact rfl | ((exact fun h => absurd h (by first | decide | (rw [e20]; decide))); intro _) | (rotate_left; (exact fun h => absurd h (by first | decide | (rw [e20]; decide))); intro _) | decide | omega) | (with_reducible refine frc_bytesL (by first | omega | decide) ?_) | (with_reducible refine frc_bytesM (by first | omega | decide) ?_))
      refine ⟨.a (.c (.bool true)), [[]], ⟨[0], ⟨rfl, rfl, rfl⟩, ?_⟩, rfl⟩
      (repeat first | exact trivial | refine ent1 ?_)
      exact eqSegs_nil trivial
    obtain ⟨g', hg', -, -, -, -, -, -, rfl, rfl⟩ := r4 hn0 (by omega) ht
    have hw := wholeN_le (l := (sh.drop at_).take m) (e := (gr + 1).toNat) (by omega) (by omega) (by omega)
    have hfl : decide (full ≤ 4611686018427387903#64) = true := decide_eq_true (by
      rw [← hfull, BitVec.le_def, BitVec.toNat_ofNat, Nat.mod_eq_of_lt (by omega)]
      show _ ≤ 4611686018427387903
      omega)
    (repeat first | (refine And.intro ?_ ?_; first | exact rfl | ((exact fun h => absurd h (by first | decide | (rw [hfl]; decide))); intro _) | (rotate_left; (exact fun h => absurd h (by first | decide | (rw [hfl]; decide))); intro _) | decide | omega) | (with_reducible refine frc_bytesL (by first | omega | decide) ?_) | (with_reducible refine frc_bytesM (by first | omega | decide) ?_))
    refine ⟨.a (.c (.bool true)), [[]], ⟨[0], ⟨rfl, rfl, rfl⟩, ?_⟩, rfl⟩
    first | exact ⟨hfl, eqSegs_nil trivial⟩ | ((repeat first | exact trivial | refine ent1 ?_); exact eqSegs_nil trivial)
end Sx
end Go.Proofs.YtkjdkeolkigibaaGreat
end

section
/-
  Numbers of sixteen bits as arguments. Over any program. No condition of its own.
-/
namespace Go.Proofs.YtkjdkeolkigibaaGreat
set_option linter.unusedVariables false
namespace Sx
open Go.ChangeShapes

theorem wf_w16 {a : Int} (h : (Lit.int .u16 a).wf = true) : a = ((BitVec.ofInt 16 a).toNat : Int) := by
  have := bounds_u16 h
  rw [BitVec.toNat_ofInt]
  omega
theorem wf_w64 {a : Int} (h : (Lit.int .u64 a).wf = true) : a = ((BitVec.ofInt 64 a).toNat : Int) := by
  have := bounds_u64 h
  rw [BitVec.toNat_ofInt]
  omega
theorem wf_i64 {n : Int} (h : (Lit.int .i64 n).wf = true) : -9223372036854775808 ≤ n ∧ n ≤ 9223372036854775807 := by
  simp only [Lit.wf, IntKind.min, IntKind.max, IntKind.signed, IntKind.bits, Bool.and_eq_true] at h
  simp at h; omega
end Sx
end Go.Proofs.YtkjdkeolkigibaaGreat
end

section
/-
  An array of bytes, given by a list. No condition.
-/
namespace Go.Proofs.YtkjdkeolkigibaaGreat
set_option linter.unusedVariables false
namespace Sx
open Sha

theorem is_rowL {r : Rho} {n : Nat} {f : Nat → BitVec 8} : SA.Is r (.agg [.row n fun i => .w8 (L (tab n f) i)]) (.agg ((List.range n).map fun i => Value.int .u8 ((f i).toNat : Int)).toArray) := by
  have e : ((List.range n).map fun i => Value.int .u8 ((f i).toNat : Int)) = (List.range n).map fun i => Value.int .u8 ((L (tab n f) i).toNat : Int) :=
    List.map_congr_left fun i hi => by rw [L_tab (List.mem_range.1 hi)]
  rw [e]
  exact is_row

end Sx
end Go.Proofs.YtkjdkeolkigibaaGreat
end

section
/-
  The law of what can't be protected or shown. No condition.
-/
namespace Go.Proofs.YtkjdkeolkigibaaGreat
set_option linter.unusedVariables false
namespace Sx
open Sha Vi Aes Gcm
set_option linter.unusedSimpArgs false
theorem L_rep0 (n i : Nat) : L (List.replicate n 0#8) i = 0#8 := by
  unfold L
  rw [List.getD_eq_getElem?_getD, List.getElem?_replicate]
  split <;> rfl
theorem numH_check {h : Hd} (e : checkM h = 0) (n : BitVec 64) {k : Nat} (h1 : 1 ≤ k) (h4 : k ≤ 4) : checkM (numH h n k) = 0 := by
  have ln : (cutM n k).length = k := tab_len _ _
  obtain ⟨a0, a1, a2, a3, a4, a5⟩ := checkM_0 e
  unfold checkM at e ⊢
  unfold numH
  dsimp only
  rw [ln, if_neg (show ¬ (k < 1 ∨ 4 < k) by omega)]
  rw [if_neg (show ¬ (h.n.l.length < 1 ∨ 4 < h.n.l.length) by omega)] at e
  exact e
set_option maxRecDepth 20000 in
set_option maxHeartbeats 16000000 in
theorem fn_sealErrors (s : Bs) (hs : s.length = 32) (h : Hd) (hfit : h.Fit) (num : BitVec 64) (many : BitVec 16) (at_ en : Int) (hat : -9223372036854775808 ≤ at_ ∧ at_ ≤ 9223372036854775807) (hen : -9223372036854775808 ≤ en ∧ en ≤ 9223372036854775807) (b : Sl) (hb : b.Fit) :
    FnR Tryz.prog tds 4 5 (hdB h ++ [svB b]) [.agg [.row 32 fun i => .w8 (L s i)], .agg (hdC 0 1 2 3 h), .c (.w64 num), .c (.w16 many), .c (.int .i64 at_), .c (.int .i64 en), .c (svC 4 b)] (fun _ => True) (fun x _ => x = .a (.c (.bool true))) := by
  refine fn_of_body tds_ok follows_ Tryz.func4 rfl (t := .a (.agg [.row 32 fun i => .w8 (L s i)]) :: .a (.agg (hdC 0 1 2 3 h)) :: .a (.c (.w64 num)) :: .a (.c (.w16 many)) :: .a (.c (.int .i64 at_)) :: .a (.c (.int .i64 en)) :: .a (.c (svC 4 b)) :: anys (Tryz.f4.ntmps - 7)) rfl (fun w r0 hr _ => ?_)
  obtain ⟨x0, x1, x2, x3, x4, rfl⟩ := len5' hr
  (repeat first | refine And.intro rfl ?_ | refine And.intro (fun _ => ?_) (fun h => Bool.noConfusion h) | refine And.intro (fun h => Bool.noConfusion h) (fun _ => ?_) | (with_reducible refine frc_bytesL (by first | omega | decide) ?_) | (with_reducible refine frc_bytesM (by first | omega | decide) ?_) | refine And.intro (by decide) ?_ | refine And.intro (by omega) ?_)
  refine call_same fn_awake12 [] rfl trivial trivial (fun _ _ => trivial) ?_
  rintro x hs' ⟨rfl, rfl⟩
  (repeat first | refine And.intro rfl ?_ | refine And.intro (fun _ => ?_) (fun h => Bool.noConfusion h) | refine And.intro (fun h => Bool.noConfusion h) (fun _ => ?_) | (with_reducible refine frc_bytesL (by first | omega | decide) ?_) | (with_reducible refine frc_bytesM (by first | omega | decide) ?_) | refine And.intro (by decide) ?_ | refine And.intro (by omega) ?_)
  refine call_same (fn_llight h) [0, 1, 2, 3] rfl (by (repeat first | exact trivial | refine ent1 ?_)) ?_ (fun _ _ => trivial) ?_
  · refine eqC_bts (eqC_bts (eqC_bts (eqC_bts ?_)))
    (repeat first | exact trivial | refine ent1 ?_)
  rintro x hs' ⟨rfl, rfl⟩
  have fin5 : ∀ {k : Prop}, k → k := id
  cases hl : lightM h with
  | false =>
    (repeat first | refine And.intro rfl ?_ | refine And.intro (fun _ => ?_) (fun h => Bool.noConfusion h) | refine And.intro (fun h => Bool.noConfusion h) (fun _ => ?_) | (with_reducible refine frc_bytesL (by first | omega | decide) ?_) | (with_reducible refine frc_bytesM (by first | omega | decide) ?_) | refine And.intro (by decide) ?_ | refine And.intro (by omega) ?_)
    refine ⟨.a (.c (.bool true)), [[], [], [], [], []], ⟨[0, 1, 2, 3, 4], ⟨rfl, rfl, rfl⟩, ?_⟩, rfl⟩
    (repeat first | exact trivial | refine ent1 ?_)
    exact eqSegs_nil (eqSegs_nil (eqSegs_nil (eqSegs_nil (eqSegs_nil trivial))))
  | true =>
  have ho := hfit.ok hl
  by_cases lb : 200 < b.l.length
  · have e1 : decide ((200 : Int) < (b.l.length : Int)) = true := decide_eq_true (by omega)
    (repeat first | refine And.intro rfl ?_ | refine And.intro (fun _ => ?_) (fun h => absurd h (by rw [e1]; decide)) | refine And.intro (fun h => absurd h (by rw [e1]; decide)) (fun _ => ?_) | refine And.intro (fun _ => ?_) (fun h => Bool.noConfusion h) | refine And.intro (fun h => Bool.noConfusion h) (fun _ => ?_) | (with_reducible refine frc_bytesL (by first | omega | decide) ?_) | (with_reducible refine frc_bytesM (by first | omega | decide) ?_) | refine And.intro (by decide) ?_ | refine And.intro (by omega) ?_)
    refine ⟨.a (.c (.bool true)), [[], [], [], [], []], ⟨[0, 1, 2, 3, 4], ⟨rfl, rfl, rfl⟩, ?_⟩, rfl⟩
    (repeat first | exact trivial | refine ent1 ?_)
    exact eqSegs_nil (eqSegs_nil (eqSegs_nil (eqSegs_nil (eqSegs_nil trivial))))
  have e1 : decide ((200 : Int) < (b.l.length : Int)) = false := decide_eq_false (by omega)
  have oB := hb.ok (by omega)
  obtain ⟨kq, hkq⟩ : ∃ v, exF s (labT qKey [] 16) = v := ⟨_, rfl⟩
  obtain ⟨iv, hiv⟩ : ∃ v, exF s (labT qIv [] 12) = v := ⟨_, rfl⟩
  obtain ⟨kh, hkh⟩ : ∃ v, exF s (labT qHp [] 16) = v := ⟨_, rfl⟩
  obtain ⟨K, hK⟩ : ∃ v, pKeys kq = v := ⟨_, rfl⟩
  obtain ⟨K2, hK2⟩ : ∃ v, pKeys kh = v := ⟨_, rfl⟩
  obtain ⟨E, hE⟩ : ∃ v, pTurn kq = v := ⟨_, rfl⟩
  obtain ⟨HH, hHH⟩ : ∃ H, toE (E fun _ => 0#8) = H := ⟨_, rfl⟩
  (repeat first | refine And.intro rfl ?_ | refine And.intro (fun _ => ?_) (fun h => absurd h (by rw [e1]; decide)) | refine And.intro (fun h => absurd h (by rw [e1]; decide)) (fun _ => ?_) | refine And.intro (fun _ => ?_) (fun h => Bool.noConfusion h) | refine And.intro (fun h => Bool.noConfusion h) (fun _ => ?_) | (with_reducible refine frc_bytesL (by first | omega | decide) ?_) | (with_reducible refine frc_bytesM (by first | omega | decide) ?_) | refine And.intro (by decide) ?_ | refine And.intro (by omega) ?_)
  refine ⟨some [5], [], [(1, true), (0, false), (2, false), (3, true)], [], by kernel_rfl, ?_⟩
  (repeat first | refine And.intro rfl ?_ | refine And.intro (fun _ => ?_) (fun h => Bool.noConfusion h) | refine And.intro (fun h => Bool.noConfusion h) (fun _ => ?_) | (with_reducible refine frc_bytesL (by first | omega | decide) ?_) | (with_reducible refine frc_bytesM (by first | omega | decide) ?_) | refine And.intro (by decide) ?_ | refine And.intro (by omega) ?_)
  refine call_same fn_keysNew [] rfl trivial trivial (fun _ _ => trivial) ?_
  rintro x hs' ⟨rfl, rfl⟩
  (repeat first | refine And.intro rfl ?_ | refine And.intro (fun _ => ?_) (fun h => Bool.noConfusion h) | refine And.intro (fun h => Bool.noConfusion h) (fun _ => ?_) | (with_reducible refine frc_bytesL (by first | omega | decide) ?_) | (with_reducible refine frc_bytesM (by first | omega | decide) ?_) | refine And.intro (by decide) ?_ | refine And.intro (by omega) ?_)
  refine call_same (fn_kOf s 0 (fun _ => 0#32) (fun _ => 0#32) (.inl rfl) hs 0 (fun _ => 0#8) 0 (.inl rfl) (by omega) kq K kh K2 iv E HH hkq hiv hkh hK hE hHH hK2) [9, 7, 8] rfl (by (repeat first | exact trivial | refine ent1 ?_)) (by (repeat first | exact trivial | refine ent1 ?_)) (fun _ _ => trivial) ?_
  rintro x hs' ⟨dn, f, g, hd, rfl, rfl⟩
  (repeat first | refine And.intro rfl ?_ | refine And.intro (fun _ => ?_) (fun h => Bool.noConfusion h) | refine And.intro (fun h => Bool.noConfusion h) (fun _ => ?_) | (with_reducible refine frc_bytesL (by first | omega | decide) ?_) | (with_reducible refine frc_bytesM (by first | omega | decide) ?_) | refine And.intro (by decide) ?_ | refine And.intro (by omega) ?_)
  refine call_same (fn_hfit h ho) [0, 1, 2, 3] rfl (by (repeat first | exact trivial | refine ent1 ?_)) ?_ (fun _ _ => trivial) ?_
  · refine eqC_bts (eqC_bts (eqC_bts (eqC_bts ?_)))
    (repeat first | exact trivial | refine ent1 ?_)
  rintro x hs' ⟨c0, hc0, rfl, rfl⟩
  have st : Sub h.t (fitM h c0).t := cutS_sub _ _
  have sf := fitM_f_sub h c0
  have sk := fitM_k_sub h c0
  have Ho := fitM_ok ho hc0
  have h0H := fitM_check h c0
  obtain ⟨H, hH⟩ : ∃ H, fitM h c0 = H := ⟨_, rfl⟩
  rw [hH] at st sf sk Ho h0H ⊢
  (repeat first | refine And.intro rfl ?_ | refine And.intro (fun _ => ?_) (fun h => Bool.noConfusion h) | refine And.intro (fun h => Bool.noConfusion h) (fun _ => ?_) | (with_reducible refine frc_bytesL (by first | omega | decide) ?_) | (with_reducible refine frc_bytesM (by first | omega | decide) ?_) | refine And.intro (by decide) ?_ | refine And.intro (by omega) ?_)
  refine call_same (fn_protect_nil H b num 0) [0, 1, 2, 14, 4] rfl (by (repeat first | exact trivial | refine ent1 ?_)) ?_ (fun _ _ => trivial) ?_
  · refine st.ent (sf.ent (sk.ent (eqC_btsM ?_)))
    refine eqC_bts ?_
    (repeat first | exact trivial | refine ent1 ?_)
  rintro x hs' ⟨rfl, rfl⟩
  (repeat first | refine And.intro rfl ?_ | refine And.intro (fun _ => ?_) (fun h => Bool.noConfusion h) | refine And.intro (fun h => Bool.noConfusion h) (fun _ => ?_) | (with_reducible refine frc_bytesL (by first | omega | decide) ?_) | (with_reducible refine frc_bytesM (by first | omega | decide) ?_) | refine And.intro (by decide) ?_ | refine And.intro (by omega) ?_)
  have hbig : 4611686018427387903#64 < 4611686018427387904#64 + num >>> 2 := by
    have h1 : (num >>> 2).toNat ≤ 4611686018427387903 := by
      rw [BitVec.toNat_ushiftRight, Nat.shiftRight_eq_div_pow]
      have := num.isLt
      omega
    rw [BitVec.lt_def, BitVec.toNat_add]
    simp only [BitVec.toNat_ofNat, Nat.reducePow, Nat.reduceMod]
    omega
  refine call_same (fn_protect_big H b (4611686018427387904#64 + num >>> 2) 0 hbig) [0, 1, 2, 14, 4, 10] rfl (by (repeat first | exact trivial | refine ent1 ?_)) ?_ (fun _ _ => trivial) ?_
  · refine st.ent (sf.ent (sk.ent (eqC_btsM ?_)))
    refine eqC_bts ?_
    exact eqSegs_nil trivial
  rintro x hs' ⟨rfl, rfl⟩
  have hm10 : (many % 10#16).toNat < 10 := by rw [BitVec.toNat_umod]; exact Nat.mod_lt _ (by decide)
  (repeat first | refine And.intro rfl ?_ | refine And.intro (fun _ => ?_) (fun h => Bool.noConfusion h) | refine And.intro (fun h => Bool.noConfusion h) (fun _ => ?_) | (with_reducible refine frc_bytesL (by first | omega | decide) ?_) | (with_reducible refine frc_bytesM (by first | omega | decide) ?_) | refine And.intro (by decide) ?_ | refine And.intro (by omega) ?_)
  obtain ⟨n, hn⟩ : ∃ n : Nat, 1180 + ((many % 10#16).toNat : Int) = (n : Int) := ⟨1180 + (many % 10#16).toNat, by omega⟩
  have hn1 : 1180 ≤ n ∧ n < 1190 := by omega
  rw [hn]
  obtain ⟨P, hP⟩ : ∃ P : Sl, ⟨false, n, 0, n, List.replicate n 0#8⟩ = P := ⟨_, rfl⟩
  have lP : P.l.length = n := by rw [← hP]; exact List.length_replicate
  have oP : P.Ok := by rw [← hP]; exact own_ok (by simp) (by simp; omega)
  obtain ⟨hN, hhN⟩ : ∃ v, numH H 7#64 1 = v := ⟨_, rfl⟩
  have hch : checkM hN = 0 := by rw [← hhN]; exact numH_check h0H _ (by decide) (by decide)
  have hln : hN.n.l.length = 1 := by rw [← hhN]; exact tab_len _ _
  obtain ⟨op, hop⟩ : ∃ v, putH hN (P.l.length + 16) = v := ⟨_, rfl⟩
  have lop : op.length ≤ 200 := by rw [← hop]; exact putH_le hch _
  obtain ⟨AA, q1, q2⟩ := putH_n hN (P.l.length + 16)
  have lop1 : op.length = AA.length + 1 := by rw [← hop, q1, List.length_append, hln]
  obtain ⟨S, hS⟩ : ∃ S, sealL E HH (nonB iv 7#64) op P.l = S := ⟨_, rfl⟩
  obtain ⟨R, hR⟩ : ∃ R, pTurn kh (smpB (op ++ S) AA.length) = R := ⟨_, rfl⟩
  obtain ⟨pE, hpE⟩ : ∃ v, putE hN ((P.l.length : Int) + 16) = v := ⟨_, rfl⟩
  have hpE2 : pE = if (n : Int) + 16 ≤ 1200 then 0 else 2 := by
    rw [← hpE, lP]
    unfold putE
    rw [if_neg (fun e => e hch)]
    by_cases h12 : (n : Int) + 16 ≤ 1200
    · rw [if_pos h12, if_neg (by omega)]
    · rw [if_neg h12, if_pos (by omega)]
  refine ⟨some [15], [], [(0, true), (1, true), (2, true), (3, false), (4, false), (5, true), (6, true), (7, true), (8, true), (9, true)], [], by kernel_rfl, ?_⟩
  refine And.intro ⟨by omega, by omega, by show (n : Int) * 1 ≤ 140737488355328; omega, by omega⟩ ?_
  refine frcN_of (m := n) (Int.toNat_natCast n) ?_
  refine frcN_of (m := n) (Int.toNat_natCast n) ?_
  (repeat first | refine And.intro rfl ?_ | refine And.intro (fun _ => ?_) (fun h => Bool.noConfusion h) | refine And.intro (fun h => Bool.noConfusion h) (fun _ => ?_) | (with_reducible refine frc_bytesL (by first | omega | decide) ?_) | (with_reducible refine frc_bytesM (by first | omega | decide) ?_) | refine And.intro (by decide) ?_ | refine And.intro (by omega) ?_)
  refine call_same (fn_protect H Ho P oP (by omega) 7#64 (by decide) 0 (by omega) (0 + 1) (by omega) kq kh K K2 iv R E HH hK hE hK2 1 (by decide +kernel) hN hhN P.l (by rw [show 4 - 1 - P.l.length = 0 by omega]; simp) pE hpE op hop S hS AA.length lop1 (by omega) hR) [0, 1, 2, 14, 17, 10, 8, 11, 12, 13] rfl ?_ ?_ (fun _ _ => trivial) ?_
  · rw [← hP]
    (repeat first | exact trivial | refine ent1 ?_)
    refine ⟨List.length_replicate.symm, rfl, ?_⟩
    (repeat first | exact trivial | refine ent1 ?_)
  · refine st.ent (sf.ent (sk.ent (eqC_btsM ?_)))
    rw [← hP]
    (repeat first | exact trivial | refine ent1 ?_)
    refine ⟨fun j hj => eqC_win0 (f := fun _ => SC.w8 0) (fun i hi => by rw [L_rep0]; rfl) j, ?_⟩
    (repeat first | exact trivial | refine ent1 ?_)
  rintro x hs' ⟨hbad1, hgood1⟩
  by_cases h12 : (n : Int) + 16 ≤ 1200
  · rw [if_pos h12] at hpE2
    subst hpE2
    obtain ⟨c1, cnt1, hc1, hc2, hc3, rfl, rfl⟩ := hgood1 rfl
    clear hbad1 hgood1
    have p1 : decide ((n : Int) + 16 ≤ 1200) = true := decide_eq_true h12
    have p2 : (decide ((0 : Int) = 0) == decide ((n : Int) + 16 ≤ 1200)) = true := by rw [p1]; rfl
    (repeat first | refine And.intro rfl ?_ | refine And.intro (fun _ => ?_) (fun h => Bool.noConfusion h) | refine And.intro (fun h => Bool.noConfusion h) (fun _ => ?_) | (with_reducible refine frc_bytesL (by first | omega | decide) ?_) | (with_reducible refine frc_bytesM (by first | omega | decide) ?_) | refine And.intro (by decide) ?_ | refine And.intro (by omega) ?_)
    refine call_same (fn_shown_nilA b at_ en) [4] rfl (by (repeat first | exact trivial | refine ent1 ?_)) ?_ (fun _ _ => trivial) ?_
    · refine eqC_bts ?_
      (repeat first | exact trivial | refine ent1 ?_)
    rintro x hs' ⟨rfl, rfl⟩
    (repeat first | (refine And.intro ?_ ?_; first | exact rfl | ((exact fun h => absurd h (by first | decide | (rw [p1]; decide) | (rw [p2]; decide))); intro yy; clear yy) | (rotate_left; (exact fun h => absurd h (by first | decide | (rw [p1]; decide) | (rw [p2]; decide))); intro yy; clear yy) | decide | omega) | (with_reducible refine frc_bytesL (by first | omega | decide) ?_) | (with_reducible refine frc_bytesM (by first | omega | decide) ?_))
    by_cases hbad : at_ < 1 ∨ (b.l.length : Int) < en ∨ en < at_ ∨ en - at_ < 20
    · refine call_same (fn_shown_badA b at_ en oB ⟨hat, hen⟩ hbad) [4, 10] rfl (by (repeat first | exact trivial | refine ent1 ?_)) ?_ (fun _ _ => trivial) ?_
      · refine eqC_bts ?_
        exact eqSegs_nil trivial
      rintro x hs' ⟨rfl, rfl⟩
      by_cases a1 : 1 ≤ at_
      rotate_left
      · have b1 : decide (1 ≤ at_) = false := decide_eq_false a1
        (repeat first | (refine And.intro ?_ ?_; first | exact rfl | ((exact fun h => absurd h (by first | decide | (rw [p1]; decide) | (rw [p2]; decide) | (rw [b1]; decide))); intro yy; clear yy) | (rotate_left; (exact fun h => absurd h (by first | decide | (rw [p1]; decide) | (rw [p2]; decide) | (rw [b1]; decide))); intro yy; clear yy) | decide | omega) | (with_reducible refine frc_bytesL (by first | omega | decide) ?_) | (with_reducible refine frc_bytesM (by first | omega | decide) ?_))
        refine ⟨.a (.c (.bool true)), [[], [], [], [], []], ⟨[0, 1, 2, 3, 4], ⟨rfl, rfl, rfl⟩, ?_⟩, rfl⟩
        (repeat first | exact trivial | refine ent1 ?_)
        exact eqSegs_nil (eqSegs_nil (eqSegs_nil (eqSegs_nil (eqSegs_nil trivial))))
      have b1 : decide (1 ≤ at_) = true := decide_eq_true a1
      by_cases a2 : en ≤ (b.l.length : Int)
      rotate_left
      · have b2 : decide (en ≤ (b.l.length : Int)) = false := decide_eq_false a2
        (repeat first | (refine And.intro ?_ ?_; first | exact rfl | ((exact fun h => absurd h (by first | decide | (rw [p1]; decide) | (rw [p2]; decide) | (rw [b1]; decide) | (rw [b2]; decide))); intro yy; clear yy) | (rotate_left; (exact fun h => absurd h (by first | decide | (rw [p1]; decide) | (rw [p2]; decide) | (rw [b1]; decide) | (rw [b2]; decide))); intro yy; clear yy) | decide | omega) | (with_reducible refine frc_bytesL (by first | omega | decide) ?_) | (with_reducible refine frc_bytesM (by first | omega | decide) ?_))
        refine ⟨.a (.c (.bool true)), [[], [], [], [], []], ⟨[0, 1, 2, 3, 4], ⟨rfl, rfl, rfl⟩, ?_⟩, rfl⟩
        (repeat first | exact trivial | refine ent1 ?_)
        exact eqSegs_nil (eqSegs_nil (eqSegs_nil (eqSegs_nil (eqSegs_nil trivial))))
      have b2 : decide (en ≤ (b.l.length : Int)) = true := decide_eq_true a2
      by_cases a3 : 20 ≤ en
      rotate_left
      · have b3 : decide (20 ≤ en) = false := decide_eq_false a3
        (repeat first | (refine And.intro ?_ ?_; first | exact rfl | ((exact fun h => absurd h (by first | decide | (rw [p1]; decide) | (rw [p2]; decide) | (rw [b1]; decide) | (rw [b2]; decide) | (rw [b3]; decide))); intro yy; clear yy) | (rotate_left; (exact fun h => absurd h (by first | decide | (rw [p1]; decide) | (rw [p2]; decide) | (rw [b1]; decide) | (rw [b2]; decide) | (rw [b3]; decide))); intro yy; clear yy) | decide | omega) | (with_reducible refine frc_bytesL (by first | omega | decide) ?_) | (with_reducible refine frc_bytesM (by first | omega | decide) ?_))
        refine ⟨.a (.c (.bool true)), [[], [], [], [], []], ⟨[0, 1, 2, 3, 4], ⟨rfl, rfl, rfl⟩, ?_⟩, rfl⟩
        (repeat first | exact trivial | refine ent1 ?_)
        exact eqSegs_nil (eqSegs_nil (eqSegs_nil (eqSegs_nil (eqSegs_nil trivial))))
      have b3 : decide (20 ≤ en) = true := decide_eq_true a3
      have b4 : decide (20 ≤ en - at_) = false := decide_eq_false (by omega)
      (repeat first | (refine And.intro ?_ ?_; first | exact rfl | ((exact fun h => absurd h (by first | decide | (rw [p1]; decide) | (rw [p2]; decide) | (rw [b1]; decide) | (rw [b2]; decide) | (rw [b3]; decide) | (rw [b4]; decide))); intro yy; clear yy) | (rotate_left; (exact fun h => absurd h (by first | decide | (rw [p1]; decide) | (rw [p2]; decide) | (rw [b1]; decide) | (rw [b2]; decide) | (rw [b3]; decide) | (rw [b4]; decide))); intro yy; clear yy) | decide | omega) | (with_reducible refine frc_bytesL (by first | omega | decide) ?_) | (with_reducible refine frc_bytesM (by first | omega | decide) ?_))
      refine ⟨.a (.c (.bool true)), [[], [], [], [], []], ⟨[0, 1, 2, 3, 4], ⟨rfl, rfl, rfl⟩, ?_⟩, rfl⟩
      (repeat first | exact trivial | refine ent1 ?_)
      exact eqSegs_nil (eqSegs_nil (eqSegs_nil (eqSegs_nil (eqSegs_nil trivial))))
    obtain ⟨A, hA⟩ : ∃ A : Nat, at_ = (A : Int) := ⟨at_.toNat, by omega⟩
    obtain ⟨M, hM⟩ : ∃ M : Nat, en = (M : Int) := ⟨en.toNat, by omega⟩
    subst hA hM
    have b1 : decide (1 ≤ (A : Int)) = true := decide_eq_true (by omega)
    have b2 : decide ((M : Int) ≤ (b.l.length : Int)) = true := decide_eq_true (by omega)
    have b3 : decide (20 ≤ (M : Int)) = true := decide_eq_true (by omega)
    have b4 : decide (20 ≤ (M : Int) - (A : Int)) = true := decide_eq_true (by omega)
    obtain ⟨R2, hR2⟩ : ∃ R, pTurn kh (smpB (b.l.take M) A) = R := ⟨_, rfl⟩
    obtain ⟨f0, hf0⟩ : ∃ f0, L b.l 0 ^^^ (R2 0 &&& hidB H.sp) = f0 := ⟨_, rfl⟩
    obtain ⟨sh, hsh⟩ : ∃ sh, maskL R2 (hidB H.sp) A (manyB f0) (b.l.take M) = sh := ⟨_, rfl⟩
    refine call_same (fn_shownH H Ho b oB A M (by omega) (by omega) (by omega) cnt1 (by omega) kh K2 R2 hK2 hR2 f0 hf0 sh hsh) [0, 1, 2, 14, 4, 10, 8, 13] rfl (by (repeat first | exact trivial | refine ent1 ?_)) ?_ (fun _ _ => trivial) ?_
    · refine st.ent (sf.ent (sk.ent (eqC_btsM ?_)))
      refine eqC_bts ?_
      (repeat first | exact trivial | refine ent1 ?_)
    rintro x hs' ⟨hno, hyes⟩
    by_cases hn0 : noneB H.sp f0 = 0#8
    · obtain ⟨SS, gg, -, -, -, rfl, rfl⟩ := hyes hn0
      (repeat first | (refine And.intro ?_ ?_; first | exact rfl | ((exact fun h => absurd h (by first | decide | (rw [p1]; decide) | (rw [p2]; decide) | (rw [b1]; decide) | (rw [b2]; decide) | (rw [b3]; decide) | (rw [b4]; decide))); intro yy; clear yy) | (rotate_left; (exact fun h => absurd h (by first | decide | (rw [p1]; decide) | (rw [p2]; decide) | (rw [b1]; decide) | (rw [b2]; decide) | (rw [b3]; decide) | (rw [b4]; decide))); intro yy; clear yy) | decide | omega) | (with_reducible refine frc_bytesL (by first | omega | decide) ?_) | (with_reducible refine frc_bytesM (by first | omega | decide) ?_))
      refine ⟨.a (.c (.bool true)), [[], [], [], [], []], ⟨[0, 1, 2, 3, 4], ⟨rfl, rfl, rfl⟩, ?_⟩, rfl⟩
      (repeat first | exact trivial | refine ent1 ?_)
      exact eqSegs_nil (eqSegs_nil (eqSegs_nil (eqSegs_nil (eqSegs_nil trivial))))
    · obtain ⟨rfl, rfl⟩ := hno hn0
      (repeat first | (refine And.intro ?_ ?_; first | exact rfl | ((exact fun h => absurd h (by first | decide | (rw [p1]; decide) | (rw [p2]; decide) | (rw [b1]; decide) | (rw [b2]; decide) | (rw [b3]; decide) | (rw [b4]; decide))); intro yy; clear yy) | (rotate_left; (exact fun h => absurd h (by first | decide | (rw [p1]; decide) | (rw [p2]; decide) | (rw [b1]; decide) | (rw [b2]; decide) | (rw [b3]; decide) | (rw [b4]; decide))); intro yy; clear yy) | decide | omega) | (with_reducible refine frc_bytesL (by first | omega | decide) ?_) | (with_reducible refine frc_bytesM (by first | omega | decide) ?_))
      refine ⟨.a (.c (.bool true)), [[], [], [], [], []], ⟨[0, 1, 2, 3, 4], ⟨rfl, rfl, rfl⟩, ?_⟩, rfl⟩
      (repeat first | exact trivial | refine ent1 ?_)
      exact eqSegs_nil (eqSegs_nil (eqSegs_nil (eqSegs_nil (eqSegs_nil trivial))))
  · rw [if_neg h12] at hpE2
    subst hpE2
    obtain ⟨rfl, rfl⟩ := hbad1 (by decide)
    clear hbad1 hgood1
    have p1 : decide ((n : Int) + 16 ≤ 1200) = false := decide_eq_false h12
    have p2 : (decide ((2 : Int) = 0) == decide ((n : Int) + 16 ≤ 1200)) = true := by rw [p1]; rfl
    (repeat first | refine And.intro rfl ?_ | refine And.intro (fun _ => ?_) (fun h => Bool.noConfusion h) | refine And.intro (fun h => Bool.noConfusion h) (fun _ => ?_) | (with_reducible refine frc_bytesL (by first | omega | decide) ?_) | (with_reducible refine frc_bytesM (by first | omega | decide) ?_) | refine And.intro (by decide) ?_ | refine And.intro (by omega) ?_)
    refine call_same (fn_shown_nilA b at_ en) [4] rfl (by (repeat first | exact trivial | refine ent1 ?_)) ?_ (fun _ _ => trivial) ?_
    · refine eqC_bts ?_
      (repeat first | exact trivial | refine ent1 ?_)
    rintro x hs' ⟨rfl, rfl⟩
    (repeat first | (refine And.intro ?_ ?_; first | exact rfl | ((exact fun h => absurd h (by first | decide | (rw [p1]; decide) | (rw [p2]; decide))); intro yy; clear yy) | (rotate_left; (exact fun h => absurd h (by first | decide | (rw [p1]; decide) | (rw [p2]; decide))); intro yy; clear yy) | decide | omega) | (with_reducible refine frc_bytesL (by first | omega | decide) ?_) | (with_reducible refine frc_bytesM (by first | omega | decide) ?_))
    by_cases hbad : at_ < 1 ∨ (b.l.length : Int) < en ∨ en < at_ ∨ en - at_ < 20
    · refine call_same (fn_shown_badA b at_ en oB ⟨hat, hen⟩ hbad) [4, 10] rfl (by (repeat first | exact trivial | refine ent1 ?_)) ?_ (fun _ _ => trivial) ?_
      · refine eqC_bts ?_
        exact eqSegs_nil trivial
      rintro x hs' ⟨rfl, rfl⟩
      by_cases a1 : 1 ≤ at_
      rotate_left
      · have b1 : decide (1 ≤ at_) = false := decide_eq_false a1
        (repeat first | (refine And.intro ?_ ?_; first | exact rfl | ((exact fun h => absurd h (by first | decide | (rw [p1]; decide) | (rw [p2]; decide) | (rw [b1]; decide))); intro yy; clear yy) | (rotate_left; (exact fun h => absurd h (by first | decide | (rw [p1]; decide) | (rw [p2]; decide) | (rw [b1]; decide))); intro yy; clear yy) | decide | omega) | (with_reducible refine frc_bytesL (by first | omega | decide) ?_) | (with_reducible refine frc_bytesM (by first | omega | decide) ?_))
        refine ⟨.a (.c (.bool true)), [[], [], [], [], []], ⟨[0, 1, 2, 3, 4], ⟨rfl, rfl, rfl⟩, ?_⟩, rfl⟩
        (repeat first | exact trivial | refine ent1 ?_)
        exact eqSegs_nil (eqSegs_nil (eqSegs_nil (eqSegs_nil (eqSegs_nil trivial))))
      have b1 : decide (1 ≤ at_) = true := decide_eq_true a1
      by_cases a2 : en ≤ (b.l.length : Int)
      rotate_left
      · have b2 : decide (en ≤ (b.l.length : Int)) = false := decide_eq_false a2
        (repeat first | (refine And.intro ?_ ?_; first | exact rfl | ((exact fun h => absurd h (by first | decide | (rw [p1]; decide) | (rw [p2]; decide) | (rw [b1]; decide) | (rw [b2]; decide))); intro yy; clear yy) | (rotate_left; (exact fun h => absurd h (by first | decide | (rw [p1]; decide) | (rw [p2]; decide) | (rw [b1]; decide) | (rw [b2]; decide))); intro yy; clear yy) | decide | omega) | (with_reducible refine frc_bytesL (by first | omega | decide) ?_) | (with_reducible refine frc_bytesM (by first | omega | decide) ?_))
        refine ⟨.a (.c (.bool true)), [[], [], [], [], []], ⟨[0, 1, 2, 3, 4], ⟨rfl, rfl, rfl⟩, ?_⟩, rfl⟩
        (repeat first | exact trivial | refine ent1 ?_)
        exact eqSegs_nil (eqSegs_nil (eqSegs_nil (eqSegs_nil (eqSegs_nil trivial))))
      have b2 : decide (en ≤ (b.l.length : Int)) = true := decide_eq_true a2
      by_cases a3 : 20 ≤ en
      rotate_left
      · have b3 : decide (20 ≤ en) = false := decide_eq_false a3
        (repeat first | (refine And.intro ?_ ?_; first | exact rfl | ((exact fun h => absurd h (by first | decide | (rw [p1]; decide) | (rw [p2]; decide) | (rw [b1]; decide) | (rw [b2]; decide) | (rw [b3]; decide))); intro yy; clear yy) | (rotate_left; (exact fun h => absurd h (by first | decide | (rw [p1]; decide) | (rw [p2]; decide) | (rw [b1]; decide) | (rw [b2]; decide) | (rw [b3]; decide))); intro yy; clear yy) | decide | omega) | (with_reducible refine frc_bytesL (by first | omega | decide) ?_) | (with_reducible refine frc_bytesM (by first | omega | decide) ?_))
        refine ⟨.a (.c (.bool true)), [[], [], [], [], []], ⟨[0, 1, 2, 3, 4], ⟨rfl, rfl, rfl⟩, ?_⟩, rfl⟩
        (repeat first | exact trivial | refine ent1 ?_)
        exact eqSegs_nil (eqSegs_nil (eqSegs_nil (eqSegs_nil (eqSegs_nil trivial))))
      have b3 : decide (20 ≤ en) = true := decide_eq_true a3
      have b4 : decide (20 ≤ en - at_) = false := decide_eq_false (by omega)
      (repeat first | (refine And.intro ?_ ?_; first | exact rfl | ((exact fun h => absurd h (by first | decide | (rw [p1]; decide) | (rw [p2]; decide) | (rw [b1]; decide) | (rw [b2]; decide) | (rw [b3]; decide) | (rw [b4]; decide))); intro yy; clear yy) | (rotate_left; (exact fun h => absurd h (by first | decide | (rw [p1]; decide) | (rw [p2]; decide) | (rw [b1]; decide) | (rw [b2]; decide) | (rw [b3]; decide) | (rw [b4]; decide))); intro yy; clear yy) | decide | omega) | (with_reducible refine frc_bytesL (by first | omega | decide) ?_) | (with_reducible refine frc_bytesM (by first | omega | decide) ?_))
      refine ⟨.a (.c (.bool true)), [[], [], [], [], []], ⟨[0, 1, 2, 3, 4], ⟨rfl, rfl, rfl⟩, ?_⟩, rfl⟩
      (repeat first | exact trivial | refine ent1 ?_)
      exact eqSegs_nil (eqSegs_nil (eqSegs_nil (eqSegs_nil (eqSegs_nil trivial))))
    obtain ⟨A, hA⟩ : ∃ A : Nat, at_ = (A : Int) := ⟨at_.toNat, by omega⟩
    obtain ⟨M, hM⟩ : ∃ M : Nat, en = (M : Int) := ⟨en.toNat, by omega⟩
    subst hA hM
    have b1 : decide (1 ≤ (A : Int)) = true := decide_eq_true (by omega)
    have b2 : decide ((M : Int) ≤ (b.l.length : Int)) = true := decide_eq_true (by omega)
    have b3 : decide (20 ≤ (M : Int)) = true := decide_eq_true (by omega)
    have b4 : decide (20 ≤ (M : Int) - (A : Int)) = true := decide_eq_true (by omega)
    obtain ⟨R2, hR2⟩ : ∃ R, pTurn kh (smpB (b.l.take M) A) = R := ⟨_, rfl⟩
    obtain ⟨f0, hf0⟩ : ∃ f0, L b.l 0 ^^^ (R2 0 &&& hidB H.sp) = f0 := ⟨_, rfl⟩
    obtain ⟨sh, hsh⟩ : ∃ sh, maskL R2 (hidB H.sp) A (manyB f0) (b.l.take M) = sh := ⟨_, rfl⟩
    refine call_same (fn_shownH H Ho b oB A M (by omega) (by omega) (by omega) (0 + 1) (by omega) kh K2 R2 hK2 hR2 f0 hf0 sh hsh) [0, 1, 2, 14, 4, 10, 8, 13] rfl (by (repeat first | exact trivial | refine ent1 ?_)) ?_ (fun _ _ => trivial) ?_
    · refine st.ent (sf.ent (sk.ent (eqC_btsM ?_)))
      refine eqC_bts ?_
      (repeat first | exact trivial | refine ent1 ?_)
    rintro x hs' ⟨hno, hyes⟩
    by_cases hn0 : noneB H.sp f0 = 0#8
    · obtain ⟨SS, gg, -, -, -, rfl, rfl⟩ := hyes hn0
      (repeat first | (refine And.intro ?_ ?_; first | exact rfl | ((exact fun h => absurd h (by first | decide | (rw [p1]; decide) | (rw [p2]; decide) | (rw [b1]; decide) | (rw [b2]; decide) | (rw [b3]; decide) | (rw [b4]; decide))); intro yy; clear yy) | (rotate_left; (exact fun h => absurd h (by first | decide | (rw [p1]; decide) | (rw [p2]; decide) | (rw [b1]; decide) | (rw [b2]; decide) | (rw [b3]; decide) | (rw [b4]; decide))); intro yy; clear yy) | decide | omega) | (with_reducible refine frc_bytesL (by first | omega | decide) ?_) | (with_reducible refine frc_bytesM (by first | omega | decide) ?_))
      refine ⟨.a (.c (.bool true)), [[], [], [], [], []], ⟨[0, 1, 2, 3, 4], ⟨rfl, rfl, rfl⟩, ?_⟩, rfl⟩
      (repeat first | exact trivial | refine ent1 ?_)
      exact eqSegs_nil (eqSegs_nil (eqSegs_nil (eqSegs_nil (eqSegs_nil trivial))))
    · obtain ⟨rfl, rfl⟩ := hno hn0
      (repeat first | (refine And.intro ?_ ?_; first | exact rfl | ((exact fun h => absurd h (by first | decide | (rw [p1]; decide) | (rw [p2]; decide) | (rw [b1]; decide) | (rw [b2]; decide) | (rw [b3]; decide) | (rw [b4]; decide))); intro yy; clear yy) | (rotate_left; (exact fun h => absurd h (by first | decide | (rw [p1]; decide) | (rw [p2]; decide) | (rw [b1]; decide) | (rw [b2]; decide) | (rw [b3]; decide) | (rw [b4]; decide))); intro yy; clear yy) | decide | omega) | (with_reducible refine frc_bytesL (by first | omega | decide) ?_) | (with_reducible refine frc_bytesM (by first | omega | decide) ?_))
      refine ⟨.a (.c (.bool true)), [[], [], [], [], []], ⟨[0, 1, 2, 3, 4], ⟨rfl, rfl, rfl⟩, ?_⟩, rfl⟩
      (repeat first | exact trivial | refine ent1 ?_)
      exact eqSegs_nil (eqSegs_nil (eqSegs_nil (eqSegs_nil (eqSegs_nil trivial))))
end Sx
end Go.Proofs.YtkjdkeolkigibaaGreat
end
