/-
  Texts of this claim, part 8: ShaK, ShaQ, ShaW, ShaX, ShaV, ShaY, KdfA, KdfB, KdfC, KdfD, ShaZ, KdfN, HnF, HnH, HnG, HnW. No condition of its own.
-/
import Derived.Test.YtkjdkeolkigibaaG7
section
/-
  SHA-256: a key's mark of at most three parts, each in a block of its own. No condition.
-/
namespace Go.Proofs.Ytkjdkeolkigibaa
set_option linter.unusedVariables false
namespace Sha
def keyL (key : Bs) : Bs := if 64 < key.length then sumL key else key
def padL (x : BitVec 8) (K : Bs) : Bs := tab 64 fun i => L K i ^^^ x
def markL (key m : Bs) : Bs := sumL (padL 0x5c#8 (keyL key) ++ sumL (padL 0x36#8 (keyL key) ++ m))
@[simp] theorem padL_len (x : BitVec 8) (K : Bs) : (padL x K).length = 64 := tab_len _ _
theorem keyL_le (key : Bs) : (keyL key).length ≤ 64 := by
  unfold keyL; split
  · rw [sumL_len]; omega
  · omega
@[simp] theorem markL_len (key m : Bs) : (markL key m).length = 32 := tab_len _ _
theorem L_over {l : Bs} {i : Nat} (h : l.length ≤ i) : L l i = 0#8 := by
  unfold L; rw [List.getD_eq_getElem?_getD, List.getElem?_eq_none h]; rfl
end Sha
namespace Sx
open Sha

theorem eqC_P123 {q : List Nat} {m : Nat} (hm : m ≤ 3) {z0 z1 z2 : Bool} {o0 o1 o2 n0 n1 n2 c0 c1 c2 i0 : Nat} {j : Nat} :
    eqC (i0 :: 1 :: 2 :: 3 :: q) (partsF m (nthC [.sn z0 1 0 o0 n0 c0, .sn z1 2 0 o1 n1 c1, .sn z2 3 0 o2 n2 c2]) j) (partsF m (nthC [.sn z0 1 0 o0 n0 c0, .sn z1 2 0 o1 n1 c1, .sn z2 3 0 o2 n2 c2]) j) True :=
  eqC_P3 (q := i0 :: 1 :: 2 :: 3 :: q) (a := .sn z0 1 0 o0 n0 c0) (b := .sn z1 2 0 o1 n1 c1) (c := .sn z2 3 0 o2 n2 c2) hm ⟨rfl, rfl, rfl, rfl, trivial⟩ ⟨rfl, rfl, rfl, rfl, trivial⟩ ⟨rfl, rfl, rfl, rfl, trivial⟩
/-- A copy of a key over noughts. -/
theorem key_row (q : List Nat) (K : Bs) (o m : Nat) (hK : K.length ≤ 64) (hm : m = K.length) (f : Nat → SC) (hf : ∀ i, i < K.length → f (i + o) = .w8 (L K i)) (j : Nat) : updN (fun _ => SC.w8 0#8) 0 m (fun q => f (q + o)) j = .w8 (L K j) := by
  subst hm
  unfold updN
  by_cases hj : j < K.length
  · rw [if_pos ⟨by omega, by omega⟩, Nat.sub_zero]; exact hf j hj
  · rw [if_neg (by omega), L_over (by omega)]
set_option maxHeartbeats 4000000 in
set_option maxRecDepth 20000 in
theorem fn_smark (zk z0 z1 z2 : Bool) (Nk N0 N1 N2 ok o0 o1 o2 ck c0 c1 c2 : Nat) (key l0 l1 l2 : Bs) (cm M m : Nat) (dn : BitVec 32) (f s : Nat → BitVec 32) (hd : dn = 0#32 ∨ dn = 1#32 ∧ f = first ∧ s = steps)
    (hNk : ok + key.length ≤ Nk) (hck : key.length ≤ ck) (hzk : zk = true → key = []) (hN0 : o0 + l0.length ≤ N0) (hc0 : l0.length ≤ c0) (hz0 : z0 = true → l0 = []) (hN1 : o1 + l1.length ≤ N1) (hc1 : l1.length ≤ c1) (hz1 : z1 = true → l1 = []) (hN2 : o2 + l2.length ≤ N2) (hc2 : l2.length ≤ c2) (hz2 : z2 = true → l2 = []) (hm : m ≤ M) (hM : m ≤ 3) :
    FnR Try.prog tds 84 5 [bts zk Nk ok key.length (L key), bts z0 N0 o0 l0.length (L l0), bts z1 N1 o1 l1.length (L l1), bts z2 N2 o2 l2.length (L l2), [.row M (partsF m (nthC [.sn z0 1 0 o0 l0.length c0, .sn z1 2 0 o1 l1.length c1, .sn z2 3 0 o2 l2.length c2]))], shaT dn 0 f s] [.c (.p 5 0 0), .c (.sn zk 0 0 ok key.length ck), .c (.sl 4 0 0 m cm)] (fun _ => True)
      (fun x hs => x = .a (.agg [.row 32 fun i => .w8 (L (markL key (cat (ps3 l0 l1 l2) m)) i)]) ∧ hs = [bts zk Nk ok key.length (L key), bts z0 N0 o0 l0.length (L l0), bts z1 N1 o1 l1.length (L l1), bts z2 N2 o2 l2.length (L l2), [.row M (partsF m (nthC [.sn z0 1 0 o0 l0.length c0, .sn z1 2 0 o1 l1.length c1, .sn z2 3 0 o2 l2.length c2]))], shaT 1 0 first steps]) := by
  refine fn_of_body tds_ok follows_ Try.func84 rfl (t := [.a (.c (.p 5 0 0)), .a (.c (.sn zk 0 0 ok key.length ck)), .a (.c (.sl 4 0 0 m cm)), .any, .any, .any, .any, .any, .any, .any, .any, .any, .any, .any, .any, .any, .any, .any, .any, .any, .any, .any, .any, .any, .any, .any, .any, .any, .any, .any, .any, .any, .any, .any, .any, .any, .any, .any, .any, .any, .any, .any, .any, .any, .any, .any, .any, .any, .any, .any, .any, .any, .any, .any, .any, .any, .any, .any, .any, .any, .any, .any, .any, .any, .any]) rfl (fun w r0 hr _ => ?_)
  obtain ⟨x0, x1, x2, x3, x4, x5, rfl⟩ := len6' hr
  refine ⟨fun h => Bool.noConfusion h, fun _ => ?_⟩
  obtain ⟨ps, hps⟩ : ∃ ps, ps3 l0 l1 l2 = ps := ⟨_, rfl⟩
  rw [hps]
  obtain ⟨K, hK⟩ : ∃ K, keyL key = K := ⟨_, rfl⟩
  have hKl : K.length ≤ 64 := by rw [← hK]; exact keyL_le _
  have hl : ∀ (k : Nat) (l pre : Bs), ps k = l → pushN (pushL d0 (pre ++ cat ps k)) (L l) l.length = pushL d0 (pre ++ cat ps (k + 1)) ∧ BitVec.ofNat 64 (pre ++ cat ps k).length + BitVec.ofNat 64 l.length = BitVec.ofNat 64 (pre ++ cat ps (k + 1)).length := by
    rintro k l pre rfl
    refine ⟨by rw [pushN_L]; simp only [cat]; rw [← List.append_assoc]; exact (pushL_app _ _ _).symm, by simp only [cat, List.length_append, ofNat_add64, Nat.add_assoc]⟩
  by_cases hlen : 64 < key.length
  · obtain rfl : zk = false := by
      cases zk
      · rfl
      · have := hzk rfl; subst this; simp at hlen
    refine ⟨fun _ => ?_, fun h => absurd (of_decide_eq_false h) (by omega)⟩
    (repeat first | refine ⟨by omega, ?_⟩ | refine ⟨by decide, ?_⟩ | refine ⟨idx8 _, ?_⟩ | refine ⟨lt8 (Nat.le_refl _) _, ?_⟩ | refine ⟨rfl, ?_⟩)
    refine call_same (fn_ssum3 false true true Nk 0 0 ok 0 0 ck 0 0 key [] [] 1 1 1 dn f s hd hNk (by decide) (by decide) hck (by decide) (by decide) hzk (fun _ => rfl) (fun _ => rfl) (by decide) (by decide)) [0, 9, 9, 9, 5] rfl (by (repeat first | exact trivial | refine ent1 ?_)) ?_ (fun _ _ => trivial) ?_
    · (repeat first | exact trivial | refine ent1 ?_)
      refine ⟨fun j hj => eqC_parts (fun i hi => ?_) j, ?_⟩
      · obtain rfl : i = 0 := by omega
        exact ⟨rfl, rfl, rfl, rfl, trivial⟩
      · (repeat first | exact trivial | refine ent1 ?_)
    rintro x hs ⟨rfl, rfl⟩
    have hcat : cat (ps3 key [] []) 1 = key := by simp [cat, ps3]
    rw [hcat]
    have hS0 : sumL key = K := by rw [← hK]; unfold keyL; rw [if_pos hlen]
    have hKl2 : K.length = 32 := by rw [← hS0, sumL_len]
    rw [hS0]
    have hrow := key_row [] K 0 32 hKl hKl2.symm (fun i => .w8 (L K i)) (fun i hi => rfl)
    have hd' : (1 : BitVec 32) = 0#32 ∨ (1 : BitVec 32) = 1#32 ∧ first = first ∧ steps = steps := .inr ⟨rfl, rfl, rfl⟩
    (repeat first | refine ⟨by omega, ?_⟩ | refine ⟨by decide, ?_⟩ | refine ⟨idx8 _, ?_⟩ | refine ⟨lt8 (Nat.le_refl _) _, ?_⟩ | refine ⟨rfl, ?_⟩ | refine ⟨by simp only [scale]; omega, ?_⟩)
    refine .inl ⟨Nat, fun k => ⟨[.a (.c (.p 5 0 0)), .any, .a (.c (.sl 4 0 0 m cm)), .any, .any, .any, .a (.c (.p 6 0 0)), .a (.c (.p 7 0 0)), .a (.c (.p 8 0 0)), .any, .any, .any, .any, .any, .any, .any, .any, .any, .any, .any, .any, .any, .any, .any, .any, .any, .any, .any, .any, .any, .any, .any, .a (.c (.int .i64 (↑k))), .any, .any, .any, .any, .any, .any, .any, .any, .any, .any, .any, .any, .any, .any, .any, .any, .any, .any, .any, .any, .any, .any, .any, .any, .any, .any, .any, .any, .any, .any, .any, .any], [bts false Nk ok key.length (L key), bts z0 N0 o0 l0.length (L l0), bts z1 N1 o1 l1.length (L l1), bts z2 N2 o2 l2.length (L l2), [.row M (partsF m (nthC [.sn z0 1 0 o0 l0.length c0, .sn z1 2 0 o1 l1.length c1, .sn z2 3 0 o2 l2.length c2]))], shaT 1 0 first steps, [.row 32 fun _ => .w8 0#8], [.row 64 fun i => .w8 (if i < k then L K i ^^^ 0x36#8 else L K i)], [.row 64 fun i => .w8 (if i < k then L K i ^^^ 0x5c#8 else L K i)]]⟩,
      fun k => k ≤ 64, fun k => 64 - k, ⟨0, [0, 1, 2, 3, 4, 5, 6, 7, 8], ⟨⟨rfl, rfl, rfl⟩, ?_⟩, by omega⟩, fun k hk => ⟨fun h => ?_, fun h => ?_⟩⟩
    · (repeat first | exact trivial | refine ent1 ?_)
      refine eqC_bts (eqC_bts (eqC_bts ⟨rfl, fun j hj => eqC_P123 hM, ?_⟩))
      (repeat first | exact trivial | refine ent1 ?_)
      refine ⟨fun j hj => eqC_w8 ?_, ?_⟩
      · exact hrow j
      · refine ⟨rfl, fun j hj => eqC_w8 ?_, ?_⟩
        · exact hrow j
        · (repeat first | exact trivial | refine ent1 ?_)
    · have hlt : (k : Int) < 64 := of_decide_eq_true h
      (repeat first | refine ⟨by omega, ?_⟩ | refine ⟨by decide, ?_⟩ | refine ⟨idx8 _, ?_⟩ | refine ⟨lt8 (Nat.le_refl _) _, ?_⟩)
      refine ⟨rfl, ?_⟩
      (repeat first | refine ⟨by omega, ?_⟩ | refine ⟨by decide, ?_⟩ | refine ⟨idx8 _, ?_⟩ | refine ⟨lt8 (Nat.le_refl _) _, ?_⟩)
      refine ⟨rfl, ⟨by omega, by omega⟩, k + 1, [0, 1, 2, 3, 4, 5, 6, 7, 8], ⟨⟨rfl, rfl, rfl⟩, ?_⟩, by dsimp only; omega, by dsimp only; omega⟩
      (repeat first | exact trivial | refine ent1 ?_)
      refine eqC_bts (eqC_bts (eqC_bts ⟨rfl, fun j hj => eqC_P123 hM, ?_⟩))
      (repeat first | exact trivial | refine ent1 ?_)
      have e0 : (k : Int).toNat + 0 = k := by omega
      rw [e0]
      have hx : ∀ (x : BitVec 8) (j : Nat), eqC [0, 1, 2, 3, 4, 5, 6, 7, 8] (upd (fun i => SC.w8 (if i < k then L K i ^^^ x else L K i)) k (.w8 ((if k < k then L K k ^^^ x else L K k) ^^^ x)) j) (.w8 (if j < k + 1 then L K j ^^^ x else L K j)) True := fun x j => by
        unfold upd
        by_cases hj : j = k
        · rw [if_pos hj, if_neg (Nat.lt_irrefl k), hj, if_pos (by omega)]; exact ⟨rfl, trivial⟩
        · have : j < k + 1 ↔ j < k := by omega
          rw [if_neg hj]; simp only [this]; exact ⟨rfl, trivial⟩
      exact ⟨fun j hj => hx _ j, rfl, fun j hj => hx _ j, by (repeat first | exact trivial | refine ent1 ?_)⟩
    · obtain rfl : k = 64 := by have : ¬ (k : Int) < 64 := of_decide_eq_false h; have hk : k ≤ 64 := hk; omega
      refine ⟨by kernel_rfl, call_same (fn_begin 1 first steps hd') [5] rfl (by (repeat first | exact trivial | refine ent1 ?_)) (by (repeat first | exact trivial | refine ent1 ?_)) (fun _ _ => trivial) ?_⟩
      rintro x hs ⟨rfl, rfl⟩
      obtain ⟨IN, hIN⟩ : ∃ IN, padL 0x36#8 K = IN := ⟨_, rfl⟩
      obtain ⟨OU, hOU⟩ : ∃ OU, padL 0x5c#8 K = OU := ⟨_, rfl⟩
      have hINl : IN.length = 64 := by rw [← hIN, padL_len]
      have hOUl : OU.length = 64 := by rw [← hOU, padL_len]
      have hINi : ∀ i, i < 64 → (if i < 64 then L K i ^^^ 0x36#8 else L K i) = L IN i := fun i hi => by rw [if_pos hi, ← hIN]; exact (L_tab (b := fun i => L K i ^^^ 0x36#8) hi).symm
      have hOUi : ∀ i, i < 64 → (if i < 64 then L K i ^^^ 0x5c#8 else L K i) = L OU i := fun i hi => by rw [if_pos hi, ← hOU]; exact (L_tab (b := fun i => L K i ^^^ 0x5c#8) hi).symm
      (repeat first | refine ⟨by omega, ?_⟩ | refine ⟨by decide, ?_⟩ | refine ⟨idx8 _, ?_⟩ | refine ⟨lt8 (Nat.le_refl _) _, ?_⟩ | refine ⟨rfl, ?_⟩)
      have hsw := fn_swrite false 64 64 64 0 (L IN) d0 0 (by decide) (by omega) (by omega) (fun h => Bool.noConfusion h)
      have e1 : pushN d0 (L IN) 64 = pushL d0 (IN ++ cat ps 0) := by rw [← hINl, pushN_L]; simp [cat]
      have e2 : (0 : BitVec 64) + BitVec.ofNat 64 64 = BitVec.ofNat 64 (IN ++ cat ps 0).length := by simp [cat, hINl]
      rw [e1, e2] at hsw
      refine call_same hsw [5, 7, 9] rfl (by (repeat first | exact trivial | refine ent1 ?_)) ?_ (fun _ _ => trivial) ?_
      · (repeat first | exact trivial | refine ent1 ?_)
        refine ⟨fun j hj => eqC_win (f := fun i => SC.w8 (if i < 64 then L K i ^^^ 0x36#8 else L K i)) (fun i hi => congrArg SC.w8 ?_) j, ?_⟩
        · rw [Nat.zero_add]; exact hINi i hi
        · (repeat first | exact trivial | refine ent1 ?_)
      rintro x hs ⟨rfl, rfl⟩
      (repeat first | refine ⟨by omega, ?_⟩ | refine ⟨by decide, ?_⟩ | refine ⟨idx8 _, ?_⟩ | refine ⟨lt8 (Nat.le_refl _) _, ?_⟩ | refine ⟨rfl, ?_⟩)
      refine .inl ⟨Nat, fun k => ⟨[.a (.c (.p 5 0 0)), .any, .any, .any, .any, .any, .a (.c (.p 6 0 0)), .any, .a (.c (.p 8 0 0)), .any, .any, .a (.c (.p 9 0 0)), .any, .any, .any, .any, .any, .any, .any, .any, .any, .any, .any, .any, .any, .any, .any, .any, .any, .any, .any, .any, .any, .any, .any, .any, .any, .any, .any, .any, .any, .any, .any, .any, .any, .any, .any, .any, .any, .any, .a (.c (.sl 4 0 0 m cm)), .a (.c (.int .i64 (↑m))), .a (.c (.int .i64 (↑k))), .any, .any, .any, .any, .any, .any, .any, .any, .any, .any, .any, .any], [bts false Nk ok key.length (L key), bts z0 N0 o0 l0.length (L l0), bts z1 N1 o1 l1.length (L l1), bts z2 N2 o2 l2.length (L l2), [.row M (partsF m (nthC [.sn z0 1 0 o0 l0.length c0, .sn z1 2 0 o1 l1.length c1, .sn z2 3 0 o2 l2.length c2]))], shaT 1 0 first steps, [.row 32 fun _ => .w8 0#8], [], [.row 64 fun i => .w8 (L OU i)], digC 5 (pushL d0 (IN ++ cat ps k)).V (pushL d0 (IN ++ cat ps k)).P (pushL d0 (IN ++ cat ps k)).h (BitVec.ofNat 64 (IN ++ cat ps k).length)]⟩,
        fun k => k ≤ m, fun k => m - k, ⟨0, [0, 1, 2, 3, 4, 5, 6, 7, 8, 9], ⟨⟨rfl, rfl, rfl⟩, ?_⟩, by omega⟩, fun k hk => ⟨fun h => ?_, fun h => ?_⟩⟩
      · (repeat first | exact trivial | refine ent1 ?_)
        refine eqC_bts (eqC_bts (eqC_bts ⟨rfl, fun j hj => eqC_P123 hM, ?_⟩))
        (repeat first | exact trivial | refine ent1 ?_)
        refine ⟨fun j hj => eqC_w8 (congrArg SC.w8 (hOUi j hj)), ?_⟩
        (repeat first | exact trivial | refine ent1 ?_)
      · have hlt : k < m := by have : (k : Int) < (m : Int) := of_decide_eq_true h; omega
        (repeat first | refine ⟨by omega, ?_⟩ | refine ⟨by decide, ?_⟩ | refine ⟨idx8 _, ?_⟩ | refine ⟨lt8 (Nat.le_refl _) _, ?_⟩)
        have e3 : (k : Int).toNat + 0 = k := by omega
        rw [e3]
        refine frc_parts hlt ?_
        obtain ⟨D, hD⟩ : ∃ D, pushL d0 (IN ++ cat ps k) = D := ⟨_, rfl⟩
        have hDl : D.h < 64 := by rw [← hD]; exact pushL_lt (by decide) _
        rw [hD]
        have hk3 : k = 0 ∨ k = 1 ∨ k = 2 := by omega
        rcases hk3 with rfl | rfl | rfl
        · obtain ⟨hk1, hl1⟩ := hl 0 l0 IN (by rw [← hps]; rfl)
          rw [hD] at hk1
          refine ⟨by kernel_rfl, call_same (fn_swrite z0 l0.length c0 N0 o0 (L l0) D (BitVec.ofNat 64 (IN ++ cat ps 0).length) hDl hN0 hc0 (fun h => by rw [hz0 h]; rfl)) [5, 1, 9] rfl (by (repeat first | exact trivial | refine ent1 ?_)) ?_ (fun _ _ => trivial) ?_⟩
          · (repeat first | exact trivial | refine ent1 ?_)
            refine eqC_bts ?_
            (repeat first | exact trivial | refine ent1 ?_)
          · rintro x hs ⟨rfl, rfl⟩
            rw [hk1, hl1]
            refine ⟨⟨by omega, by omega⟩, 1, [0, 1, 2, 3, 4, 5, 6, 7, 8, 9], ⟨⟨rfl, rfl, rfl⟩, ?_⟩, by dsimp only; omega, by dsimp only; omega⟩
            (repeat first | exact trivial | refine ent1 ?_)
            refine eqC_bts (eqC_bts (eqC_bts ⟨rfl, fun j hj => eqC_P123 hM, ?_⟩))
            (repeat first | exact trivial | refine ent1 ?_)
        · obtain ⟨hk1, hl1⟩ := hl 1 l1 IN (by rw [← hps]; rfl)
          rw [hD] at hk1
          refine ⟨by kernel_rfl, call_same (fn_swrite z1 l1.length c1 N1 o1 (L l1) D (BitVec.ofNat 64 (IN ++ cat ps 1).length) hDl hN1 hc1 (fun h => by rw [hz1 h]; rfl)) [5, 2, 9] rfl (by (repeat first | exact trivial | refine ent1 ?_)) ?_ (fun _ _ => trivial) ?_⟩
          · (repeat first | exact trivial | refine ent1 ?_)
            refine eqC_bts ?_
            (repeat first | exact trivial | refine ent1 ?_)
          · rintro x hs ⟨rfl, rfl⟩
            rw [hk1, hl1]
            refine ⟨⟨by omega, by omega⟩, 2, [0, 1, 2, 3, 4, 5, 6, 7, 8, 9], ⟨⟨rfl, rfl, rfl⟩, ?_⟩, by dsimp only; omega, by dsimp only; omega⟩
            (repeat first | exact trivial | refine ent1 ?_)
            refine eqC_bts (eqC_bts (eqC_bts ⟨rfl, fun j hj => eqC_P123 hM, ?_⟩))
            (repeat first | exact trivial | refine ent1 ?_)
        · obtain ⟨hk1, hl1⟩ := hl 2 l2 IN (by rw [← hps]; rfl)
          rw [hD] at hk1
          refine ⟨by kernel_rfl, call_same (fn_swrite z2 l2.length c2 N2 o2 (L l2) D (BitVec.ofNat 64 (IN ++ cat ps 2).length) hDl hN2 hc2 (fun h => by rw [hz2 h]; rfl)) [5, 3, 9] rfl (by (repeat first | exact trivial | refine ent1 ?_)) ?_ (fun _ _ => trivial) ?_⟩
          · (repeat first | exact trivial | refine ent1 ?_)
            refine eqC_bts ?_
            (repeat first | exact trivial | refine ent1 ?_)
          · rintro x hs ⟨rfl, rfl⟩
            rw [hk1, hl1]
            refine ⟨⟨by omega, by omega⟩, 3, [0, 1, 2, 3, 4, 5, 6, 7, 8, 9], ⟨⟨rfl, rfl, rfl⟩, ?_⟩, by dsimp only; omega, by dsimp only; omega⟩
            (repeat first | exact trivial | refine ent1 ?_)
            refine eqC_bts (eqC_bts (eqC_bts ⟨rfl, fun j hj => eqC_P123 hM, ?_⟩))
            (repeat first | exact trivial | refine ent1 ?_)
      · obtain rfl : k = m := by have : ¬ (k : Int) < (m : Int) := of_decide_eq_false h; have hk : k ≤ m := hk; omega
        obtain ⟨D, hD⟩ : ∃ D, pushL d0 (IN ++ cat ps k) = D := ⟨_, rfl⟩
        have hDl : D.h < 64 := by rw [← hD]; exact pushL_lt (by decide) _
        obtain ⟨S, hS⟩ : ∃ S, sumL (IN ++ cat ps k) = S := ⟨_, rfl⟩
        have hSl : S.length = 32 := by rw [← hS, sumL_len]
        have hSL : ∀ i, i < 32 → endV D (BitVec.ofNat 64 (IN ++ cat ps k).length) i = L S i := fun i hi => by rw [← hS, L_sumL _ hi, hD]
        have hM1 : markL key (cat ps k) = sumL (OU ++ S) := by unfold markL; rw [hK, hIN, hOU, hS]
        rw [hD]
        refine ⟨by kernel_rfl, call_same (fn_send D (BitVec.ofNat 64 (IN ++ cat ps k).length) hDl) [5, 9] rfl (by (repeat first | exact trivial | refine ent1 ?_)) (by (repeat first | exact trivial | refine ent1 ?_)) (fun _ _ => trivial) ?_⟩
        rintro x hs ⟨rfl, V', P', h', a', rfl⟩
        (repeat first | refine ⟨by omega, ?_⟩ | refine ⟨by decide, ?_⟩ | refine ⟨idx8 _, ?_⟩ | refine ⟨lt8 (Nat.le_refl _) _, ?_⟩ | refine ⟨rfl, ?_⟩)
        refine ⟨some [], [], [(0, true), (1, true), (2, true), (3, false), (4, false)], [5], by kernel_rfl, ?_⟩
        (repeat first | refine ⟨by omega, ?_⟩ | refine ⟨by decide, ?_⟩ | refine ⟨idx8 _, ?_⟩ | refine ⟨lt8 (Nat.le_refl _) _, ?_⟩ | refine ⟨rfl, ?_⟩)
        refine call_same (fn_ssum3 false false true 64 32 0 0 0 0 64 32 0 OU S [] 2 2 2 1 first steps (.inr ⟨rfl, rfl, rfl⟩) (by omega) (by omega) (by decide) (by omega) (by omega) (by decide) (fun h => Bool.noConfusion h) (fun h => Bool.noConfusion h) (fun _ => rfl) (by decide) (by decide)) [8, 10, 10, 11, 5] rfl (by (repeat first | exact trivial | refine ent1 ?_)) ?_ (fun _ _ => trivial) ?_
        · (repeat first | exact trivial | refine ent1 ?_)
          refine ⟨fun j hj => eqC_win8 (fun i hi => rfl) j, ?_⟩
          (repeat first | exact trivial | refine ent1 ?_)
          refine ⟨fun j hj => eqC_win8 (fun i hi => hSL i (by omega)) j, ?_⟩
          (repeat first | exact trivial | refine ent1 ?_)
          refine ⟨fun j hj => eqC_parts (fun i hi => ?_) j, ?_⟩
          · have : i = 0 ∨ i = 1 := by omega
            rcases this with rfl | rfl
            · exact ⟨rfl, rfl, hOUl.symm, rfl, trivial⟩
            · exact ⟨rfl, rfl, hSl.symm, rfl, trivial⟩
          · (repeat first | exact trivial | refine ent1 ?_)
        rintro x hs ⟨rfl, rfl⟩
        (repeat first | refine ⟨by omega, ?_⟩ | refine ⟨by decide, ?_⟩ | refine ⟨idx8 _, ?_⟩ | refine ⟨lt8 (Nat.le_refl _) _, ?_⟩ | refine ⟨rfl, ?_⟩)
        have hcat : cat (ps3 OU S []) 2 = OU ++ S := by simp [cat, ps3]
        rw [hcat]
        refine ⟨.a (.agg [.row 32 fun i => .w8 (L (markL key (cat ps k)) i)]), [bts false Nk ok key.length (L key), bts z0 N0 o0 l0.length (L l0), bts z1 N1 o1 l1.length (L l1), bts z2 N2 o2 l2.length (L l2), [.row M (partsF k (nthC [.sn z0 1 0 o0 l0.length c0, .sn z1 2 0 o1 l1.length c1, .sn z2 3 0 o2 l2.length c2]))], shaT 1 0 first steps], ⟨[0, 1, 2, 3, 4, 5], ⟨rfl, rfl, rfl⟩, ?_⟩, rfl, rfl⟩
        rw [hM1]
        (repeat first | exact trivial | refine ent1 ?_)
        refine eqC_bts (eqC_bts (eqC_bts ⟨rfl, fun j hj => eqC_P123 hM, ?_⟩))
        (repeat first | exact trivial | refine ent1 ?_)
  refine ⟨fun h => absurd (of_decide_eq_true h) (by omega), fun _ => ?_⟩
  obtain rfl : key = K := by rw [← hK]; unfold keyL; rw [if_neg hlen]
  cases zk with
  | true =>
    obtain rfl := hzk rfl
    have hrow := key_row [] [] 0 0 (by decide) rfl (fun i => .any) (fun i hi => absurd hi (by simp))
    have hd' := hd
    (repeat first | refine ⟨by omega, ?_⟩ | refine ⟨by decide, ?_⟩ | refine ⟨idx8 _, ?_⟩ | refine ⟨lt8 (Nat.le_refl _) _, ?_⟩ | refine ⟨rfl, ?_⟩ | refine ⟨by simp only [scale]; omega, ?_⟩)
    refine ⟨fun q => SC.any, ⟨fun h => rfl, fun h => Bool.noConfusion h⟩, ?_⟩
    (repeat first | refine ⟨by omega, ?_⟩ | refine ⟨by decide, ?_⟩ | refine ⟨idx8 _, ?_⟩ | refine ⟨lt8 (Nat.le_refl _) _, ?_⟩ | refine ⟨rfl, ?_⟩ | refine ⟨by simp only [scale]; omega, ?_⟩)
    refine ⟨fun q => SC.any, ⟨fun h => rfl, fun h => Bool.noConfusion h⟩, ?_⟩
    (repeat first | refine ⟨by omega, ?_⟩ | refine ⟨by decide, ?_⟩ | refine ⟨idx8 _, ?_⟩ | refine ⟨lt8 (Nat.le_refl _) _, ?_⟩ | refine ⟨rfl, ?_⟩ | refine ⟨by simp only [scale]; omega, ?_⟩)
    refine .inl ⟨Nat, fun k => ⟨[.a (.c (.p 5 0 0)), .any, .a (.c (.sl 4 0 0 m cm)), .any, .any, .any, .a (.c (.p 6 0 0)), .a (.c (.p 7 0 0)), .a (.c (.p 8 0 0)), .any, .any, .any, .any, .any, .any, .any, .any, .any, .any, .any, .any, .any, .any, .any, .any, .any, .any, .any, .any, .any, .any, .any, .a (.c (.int .i64 (↑k))), .any, .any, .any, .any, .any, .any, .any, .any, .any, .any, .any, .any, .any, .any, .any, .any, .any, .any, .any, .any, .any, .any, .any, .any, .any, .any, .any, .any, .any, .any, .any, .any], [bts true Nk ok ([] : Bs).length (L ([] : Bs)), bts z0 N0 o0 l0.length (L l0), bts z1 N1 o1 l1.length (L l1), bts z2 N2 o2 l2.length (L l2), [.row M (partsF m (nthC [.sn z0 1 0 o0 l0.length c0, .sn z1 2 0 o1 l1.length c1, .sn z2 3 0 o2 l2.length c2]))], shaT dn 0 f s, [.row 32 fun _ => .w8 0#8], [.row 64 fun i => .w8 (if i < k then L ([] : Bs) i ^^^ 0x36#8 else L ([] : Bs) i)], [.row 64 fun i => .w8 (if i < k then L ([] : Bs) i ^^^ 0x5c#8 else L ([] : Bs) i)]]⟩,
      fun k => k ≤ 64, fun k => 64 - k, ⟨0, [0, 1, 2, 3, 4, 5, 6, 7, 8], ⟨⟨rfl, rfl, rfl⟩, ?_⟩, by omega⟩, fun k hk => ⟨fun h => ?_, fun h => ?_⟩⟩
    · (repeat first | exact trivial | refine ent1 ?_)
      refine eqC_bts (eqC_bts (eqC_bts (eqC_bts ⟨rfl, fun j hj => eqC_P123 hM, ?_⟩)))
      (repeat first | exact trivial | refine ent1 ?_)
    · have hlt : (k : Int) < 64 := of_decide_eq_true h
      (repeat first | refine ⟨by omega, ?_⟩ | refine ⟨by decide, ?_⟩ | refine ⟨idx8 _, ?_⟩ | refine ⟨lt8 (Nat.le_refl _) _, ?_⟩)
      refine ⟨rfl, ?_⟩
      (repeat first | refine ⟨by omega, ?_⟩ | refine ⟨by decide, ?_⟩ | refine ⟨idx8 _, ?_⟩ | refine ⟨lt8 (Nat.le_refl _) _, ?_⟩)
      refine ⟨rfl, ⟨by omega, by omega⟩, k + 1, [0, 1, 2, 3, 4, 5, 6, 7, 8], ⟨⟨rfl, rfl, rfl⟩, ?_⟩, by dsimp only; omega, by dsimp only; omega⟩
      (repeat first | exact trivial | refine ent1 ?_)
      refine eqC_bts (eqC_bts (eqC_bts (eqC_bts ⟨rfl, fun j hj => eqC_P123 hM, ?_⟩)))
      (repeat first | exact trivial | refine ent1 ?_)
      have e0 : (k : Int).toNat + 0 = k := by omega
      rw [e0]
      have hx : ∀ (x : BitVec 8) (j : Nat), eqC [0, 1, 2, 3, 4, 5, 6, 7, 8] (upd (fun i => SC.w8 (if i < k then L ([] : Bs) i ^^^ x else L ([] : Bs) i)) k (.w8 ((if k < k then L ([] : Bs) k ^^^ x else L ([] : Bs) k) ^^^ x)) j) (.w8 (if j < k + 1 then L ([] : Bs) j ^^^ x else L ([] : Bs) j)) True := fun x j => by
        unfold upd
        by_cases hj : j = k
        · rw [if_pos hj, if_neg (Nat.lt_irrefl k), hj, if_pos (by omega)]; exact ⟨rfl, trivial⟩
        · have : j < k + 1 ↔ j < k := by omega
          rw [if_neg hj]; simp only [this]; exact ⟨rfl, trivial⟩
      exact ⟨fun j hj => hx _ j, rfl, fun j hj => hx _ j, by (repeat first | exact trivial | refine ent1 ?_)⟩
    · obtain rfl : k = 64 := by have : ¬ (k : Int) < 64 := of_decide_eq_false h; have hk : k ≤ 64 := hk; omega
      refine ⟨by kernel_rfl, call_same (fn_begin dn f s hd') [5] rfl (by (repeat first | exact trivial | refine ent1 ?_)) (by (repeat first | exact trivial | refine ent1 ?_)) (fun _ _ => trivial) ?_⟩
      rintro x hs ⟨rfl, rfl⟩
      obtain ⟨IN, hIN⟩ : ∃ IN, padL 0x36#8 ([] : Bs) = IN := ⟨_, rfl⟩
      obtain ⟨OU, hOU⟩ : ∃ OU, padL 0x5c#8 ([] : Bs) = OU := ⟨_, rfl⟩
      have hINl : IN.length = 64 := by rw [← hIN, padL_len]
      have hOUl : OU.length = 64 := by rw [← hOU, padL_len]
      have hINi : ∀ i, i < 64 → (if i < 64 then L ([] : Bs) i ^^^ 0x36#8 else L ([] : Bs) i) = L IN i := fun i hi => by rw [if_pos hi, ← hIN]; exact (L_tab (b := fun i => L ([] : Bs) i ^^^ 0x36#8) hi).symm
      have hOUi : ∀ i, i < 64 → (if i < 64 then L ([] : Bs) i ^^^ 0x5c#8 else L ([] : Bs) i) = L OU i := fun i hi => by rw [if_pos hi, ← hOU]; exact (L_tab (b := fun i => L ([] : Bs) i ^^^ 0x5c#8) hi).symm
      (repeat first | refine ⟨by omega, ?_⟩ | refine ⟨by decide, ?_⟩ | refine ⟨idx8 _, ?_⟩ | refine ⟨lt8 (Nat.le_refl _) _, ?_⟩ | refine ⟨rfl, ?_⟩)
      have hsw := fn_swrite false 64 64 64 0 (L IN) d0 0 (by decide) (by omega) (by omega) (fun h => Bool.noConfusion h)
      have e1 : pushN d0 (L IN) 64 = pushL d0 (IN ++ cat ps 0) := by rw [← hINl, pushN_L]; simp [cat]
      have e2 : (0 : BitVec 64) + BitVec.ofNat 64 64 = BitVec.ofNat 64 (IN ++ cat ps 0).length := by simp [cat, hINl]
      rw [e1, e2] at hsw
      refine call_same hsw [5, 7, 9] rfl (by (repeat first | exact trivial | refine ent1 ?_)) ?_ (fun _ _ => trivial) ?_
      · (repeat first | exact trivial | refine ent1 ?_)
        refine ⟨fun j hj => eqC_win (f := fun i => SC.w8 (if i < 64 then L ([] : Bs) i ^^^ 0x36#8 else L ([] : Bs) i)) (fun i hi => congrArg SC.w8 ?_) j, ?_⟩
        · rw [Nat.zero_add]; exact hINi i hi
        · (repeat first | exact trivial | refine ent1 ?_)
      rintro x hs ⟨rfl, rfl⟩
      (repeat first | refine ⟨by omega, ?_⟩ | refine ⟨by decide, ?_⟩ | refine ⟨idx8 _, ?_⟩ | refine ⟨lt8 (Nat.le_refl _) _, ?_⟩ | refine ⟨rfl, ?_⟩)
      refine .inl ⟨Nat, fun k => ⟨[.a (.c (.p 5 0 0)), .any, .any, .any, .any, .any, .a (.c (.p 6 0 0)), .any, .a (.c (.p 8 0 0)), .any, .any, .a (.c (.p 9 0 0)), .any, .any, .any, .any, .any, .any, .any, .any, .any, .any, .any, .any, .any, .any, .any, .any, .any, .any, .any, .any, .any, .any, .any, .any, .any, .any, .any, .any, .any, .any, .any, .any, .any, .any, .any, .any, .any, .any, .a (.c (.sl 4 0 0 m cm)), .a (.c (.int .i64 (↑m))), .a (.c (.int .i64 (↑k))), .any, .any, .any, .any, .any, .any, .any, .any, .any, .any, .any, .any], [bts true Nk ok ([] : Bs).length (L ([] : Bs)), bts z0 N0 o0 l0.length (L l0), bts z1 N1 o1 l1.length (L l1), bts z2 N2 o2 l2.length (L l2), [.row M (partsF m (nthC [.sn z0 1 0 o0 l0.length c0, .sn z1 2 0 o1 l1.length c1, .sn z2 3 0 o2 l2.length c2]))], shaT 1 0 first steps, [.row 32 fun _ => .w8 0#8], [], [.row 64 fun i => .w8 (L OU i)], digC 5 (pushL d0 (IN ++ cat ps k)).V (pushL d0 (IN ++ cat ps k)).P (pushL d0 (IN ++ cat ps k)).h (BitVec.ofNat 64 (IN ++ cat ps k).length)]⟩,
        fun k => k ≤ m, fun k => m - k, ⟨0, [0, 1, 2, 3, 4, 5, 6, 7, 8, 9], ⟨⟨rfl, rfl, rfl⟩, ?_⟩, by omega⟩, fun k hk => ⟨fun h => ?_, fun h => ?_⟩⟩
      · (repeat first | exact trivial | refine ent1 ?_)
        refine eqC_bts (eqC_bts (eqC_bts (eqC_bts ⟨rfl, fun j hj => eqC_P123 hM, ?_⟩)))
        (repeat first | exact trivial | refine ent1 ?_)
        refine ⟨fun j hj => eqC_w8 (congrArg SC.w8 (hOUi j hj)), ?_⟩
        (repeat first | exact trivial | refine ent1 ?_)
      · have hlt : k < m := by have : (k : Int) < (m : Int) := of_decide_eq_true h; omega
        (repeat first | refine ⟨by omega, ?_⟩ | refine ⟨by decide, ?_⟩ | refine ⟨idx8 _, ?_⟩ | refine ⟨lt8 (Nat.le_refl _) _, ?_⟩)
        have e3 : (k : Int).toNat + 0 = k := by omega
        rw [e3]
        refine frc_parts hlt ?_
        obtain ⟨D, hD⟩ : ∃ D, pushL d0 (IN ++ cat ps k) = D := ⟨_, rfl⟩
        have hDl : D.h < 64 := by rw [← hD]; exact pushL_lt (by decide) _
        rw [hD]
        have hk3 : k = 0 ∨ k = 1 ∨ k = 2 := by omega
        rcases hk3 with rfl | rfl | rfl
        · obtain ⟨hk1, hl1⟩ := hl 0 l0 IN (by rw [← hps]; rfl)
          rw [hD] at hk1
          refine ⟨by kernel_rfl, call_same (fn_swrite z0 l0.length c0 N0 o0 (L l0) D (BitVec.ofNat 64 (IN ++ cat ps 0).length) hDl hN0 hc0 (fun h => by rw [hz0 h]; rfl)) [5, 1, 9] rfl (by (repeat first | exact trivial | refine ent1 ?_)) ?_ (fun _ _ => trivial) ?_⟩
          · (repeat first | exact trivial | refine ent1 ?_)
            refine eqC_bts ?_
            (repeat first | exact trivial | refine ent1 ?_)
          · rintro x hs ⟨rfl, rfl⟩
            rw [hk1, hl1]
            refine ⟨⟨by omega, by omega⟩, 1, [0, 1, 2, 3, 4, 5, 6, 7, 8, 9], ⟨⟨rfl, rfl, rfl⟩, ?_⟩, by dsimp only; omega, by dsimp only; omega⟩
            (repeat first | exact trivial | refine ent1 ?_)
            refine eqC_bts (eqC_bts (eqC_bts (eqC_bts ⟨rfl, fun j hj => eqC_P123 hM, ?_⟩)))
            (repeat first | exact trivial | refine ent1 ?_)
        · obtain ⟨hk1, hl1⟩ := hl 1 l1 IN (by rw [← hps]; rfl)
          rw [hD] at hk1
          refine ⟨by kernel_rfl, call_same (fn_swrite z1 l1.length c1 N1 o1 (L l1) D (BitVec.ofNat 64 (IN ++ cat ps 1).length) hDl hN1 hc1 (fun h => by rw [hz1 h]; rfl)) [5, 2, 9] rfl (by (repeat first | exact trivial | refine ent1 ?_)) ?_ (fun _ _ => trivial) ?_⟩
          · (repeat first | exact trivial | refine ent1 ?_)
            refine eqC_bts ?_
            (repeat first | exact trivial | refine ent1 ?_)
          · rintro x hs ⟨rfl, rfl⟩
            rw [hk1, hl1]
            refine ⟨⟨by omega, by omega⟩, 2, [0, 1, 2, 3, 4, 5, 6, 7, 8, 9], ⟨⟨rfl, rfl, rfl⟩, ?_⟩, by dsimp only; omega, by dsimp only; omega⟩
            (repeat first | exact trivial | refine ent1 ?_)
            refine eqC_bts (eqC_bts (eqC_bts (eqC_bts ⟨rfl, fun j hj => eqC_P123 hM, ?_⟩)))
            (repeat first | exact trivial | refine ent1 ?_)
        · obtain ⟨hk1, hl1⟩ := hl 2 l2 IN (by rw [← hps]; rfl)
          rw [hD] at hk1
          refine ⟨by kernel_rfl, call_same (fn_swrite z2 l2.length c2 N2 o2 (L l2) D (BitVec.ofNat 64 (IN ++ cat ps 2).length) hDl hN2 hc2 (fun h => by rw [hz2 h]; rfl)) [5, 3, 9] rfl (by (repeat first | exact trivial | refine ent1 ?_)) ?_ (fun _ _ => trivial) ?_⟩
          · (repeat first | exact trivial | refine ent1 ?_)
            refine eqC_bts ?_
            (repeat first | exact trivial | refine ent1 ?_)
          · rintro x hs ⟨rfl, rfl⟩
            rw [hk1, hl1]
            refine ⟨⟨by omega, by omega⟩, 3, [0, 1, 2, 3, 4, 5, 6, 7, 8, 9], ⟨⟨rfl, rfl, rfl⟩, ?_⟩, by dsimp only; omega, by dsimp only; omega⟩
            (repeat first | exact trivial | refine ent1 ?_)
            refine eqC_bts (eqC_bts (eqC_bts (eqC_bts ⟨rfl, fun j hj => eqC_P123 hM, ?_⟩)))
            (repeat first | exact trivial | refine ent1 ?_)
      · obtain rfl : k = m := by have : ¬ (k : Int) < (m : Int) := of_decide_eq_false h; have hk : k ≤ m := hk; omega
        obtain ⟨D, hD⟩ : ∃ D, pushL d0 (IN ++ cat ps k) = D := ⟨_, rfl⟩
        have hDl : D.h < 64 := by rw [← hD]; exact pushL_lt (by decide) _
        obtain ⟨S, hS⟩ : ∃ S, sumL (IN ++ cat ps k) = S := ⟨_, rfl⟩
        have hSl : S.length = 32 := by rw [← hS, sumL_len]
        have hSL : ∀ i, i < 32 → endV D (BitVec.ofNat 64 (IN ++ cat ps k).length) i = L S i := fun i hi => by rw [← hS, L_sumL _ hi, hD]
        have hM1 : markL ([] : Bs) (cat ps k) = sumL (OU ++ S) := by unfold markL; rw [hK, hIN, hOU, hS]
        rw [hD]
        refine ⟨by kernel_rfl, call_same (fn_send D (BitVec.ofNat 64 (IN ++ cat ps k).length) hDl) [5, 9] rfl (by (repeat first | exact trivial | refine ent1 ?_)) (by (repeat first | exact trivial | refine ent1 ?_)) (fun _ _ => trivial) ?_⟩
        rintro x hs ⟨rfl, V', P', h', a', rfl⟩
        (repeat first | refine ⟨by omega, ?_⟩ | refine ⟨by decide, ?_⟩ | refine ⟨idx8 _, ?_⟩ | refine ⟨lt8 (Nat.le_refl _) _, ?_⟩ | refine ⟨rfl, ?_⟩)
        refine ⟨some [], [], [(0, true), (1, true), (2, true), (3, false), (4, false)], [5], by kernel_rfl, ?_⟩
        (repeat first | refine ⟨by omega, ?_⟩ | refine ⟨by decide, ?_⟩ | refine ⟨idx8 _, ?_⟩ | refine ⟨lt8 (Nat.le_refl _) _, ?_⟩ | refine ⟨rfl, ?_⟩)
        refine call_same (fn_ssum3 false false true 64 32 0 0 0 0 64 32 0 OU S [] 2 2 2 1 first steps (.inr ⟨rfl, rfl, rfl⟩) (by omega) (by omega) (by decide) (by omega) (by omega) (by decide) (fun h => Bool.noConfusion h) (fun h => Bool.noConfusion h) (fun _ => rfl) (by decide) (by decide)) [8, 10, 10, 11, 5] rfl (by (repeat first | exact trivial | refine ent1 ?_)) ?_ (fun _ _ => trivial) ?_
        · (repeat first | exact trivial | refine ent1 ?_)
          refine ⟨fun j hj => eqC_win8 (fun i hi => rfl) j, ?_⟩
          (repeat first | exact trivial | refine ent1 ?_)
          refine ⟨fun j hj => eqC_win8 (fun i hi => hSL i (by omega)) j, ?_⟩
          (repeat first | exact trivial | refine ent1 ?_)
          refine ⟨fun j hj => eqC_parts (fun i hi => ?_) j, ?_⟩
          · have : i = 0 ∨ i = 1 := by omega
            rcases this with rfl | rfl
            · exact ⟨rfl, rfl, hOUl.symm, rfl, trivial⟩
            · exact ⟨rfl, rfl, hSl.symm, rfl, trivial⟩
          · (repeat first | exact trivial | refine ent1 ?_)
        rintro x hs ⟨rfl, rfl⟩
        (repeat first | refine ⟨by omega, ?_⟩ | refine ⟨by decide, ?_⟩ | refine ⟨idx8 _, ?_⟩ | refine ⟨lt8 (Nat.le_refl _) _, ?_⟩ | refine ⟨rfl, ?_⟩)
        have hcat : cat (ps3 OU S []) 2 = OU ++ S := by simp [cat, ps3]
        rw [hcat]
        refine ⟨.a (.agg [.row 32 fun i => .w8 (L (markL ([] : Bs) (cat ps k)) i)]), [bts true Nk ok ([] : Bs).length (L ([] : Bs)), bts z0 N0 o0 l0.length (L l0), bts z1 N1 o1 l1.length (L l1), bts z2 N2 o2 l2.length (L l2), [.row M (partsF k (nthC [.sn z0 1 0 o0 l0.length c0, .sn z1 2 0 o1 l1.length c1, .sn z2 3 0 o2 l2.length c2]))], shaT 1 0 first steps], ⟨[0, 1, 2, 3, 4, 5], ⟨rfl, rfl, rfl⟩, ?_⟩, rfl, rfl⟩
        rw [hM1]
        (repeat first | exact trivial | refine ent1 ?_)
        refine eqC_bts (eqC_bts (eqC_bts (eqC_bts ⟨rfl, fun j hj => eqC_P123 hM, ?_⟩)))
        (repeat first | exact trivial | refine ent1 ?_)
  | false =>
    have hrow := key_row [] key ok (min key.length 64) (by omega) (by omega) (winF ok key.length (L key)) (fun i hi => by rw [Nat.add_comm]; exact winF_at _ _ _ hi)
    have hd' := hd
    (repeat first | refine ⟨by omega, ?_⟩ | refine ⟨by decide, ?_⟩ | refine ⟨idx8 _, ?_⟩ | refine ⟨lt8 (Nat.le_refl _) _, ?_⟩ | refine ⟨rfl, ?_⟩ | refine ⟨by simp only [scale]; omega, ?_⟩)
    refine ⟨fun q => winF ok key.length (L key) (q + ok), ⟨fun h => Bool.noConfusion h, fun h => ⟨Nk, winF ok key.length (L key), [], rfl, by simp only [scale]; omega, fun _ _ => rfl⟩⟩, ?_⟩
    (repeat first | refine ⟨by omega, ?_⟩ | refine ⟨by decide, ?_⟩ | refine ⟨idx8 _, ?_⟩ | refine ⟨lt8 (Nat.le_refl _) _, ?_⟩ | refine ⟨rfl, ?_⟩ | refine ⟨by simp only; omega, ?_⟩)
    refine ⟨fun q => winF ok key.length (L key) (q + ok), ⟨fun h => Bool.noConfusion h, fun h => ⟨Nk, winF ok key.length (L key), [], rfl, by simp only [scale]; omega, fun _ _ => rfl⟩⟩, ?_⟩
    (repeat first | refine ⟨by omega, ?_⟩ | refine ⟨by decide, ?_⟩ | refine ⟨idx8 _, ?_⟩ | refine ⟨lt8 (Nat.le_refl _) _, ?_⟩ | refine ⟨rfl, ?_⟩ | refine ⟨by simp only; omega, ?_⟩)
    refine .inl ⟨Nat, fun k => ⟨[.a (.c (.p 5 0 0)), .any, .a (.c (.sl 4 0 0 m cm)), .any, .any, .any, .a (.c (.p 6 0 0)), .a (.c (.p 7 0 0)), .a (.c (.p 8 0 0)), .any, .any, .any, .any, .any, .any, .any, .any, .any, .any, .any, .any, .any, .any, .any, .any, .any, .any, .any, .any, .any, .any, .any, .a (.c (.int .i64 (↑k))), .any, .any, .any, .any, .any, .any, .any, .any, .any, .any, .any, .any, .any, .any, .any, .any, .any, .any, .any, .any, .any, .any, .any, .any, .any, .any, .any, .any, .any, .any, .any, .any], [bts false Nk ok key.length (L key), bts z0 N0 o0 l0.length (L l0), bts z1 N1 o1 l1.length (L l1), bts z2 N2 o2 l2.length (L l2), [.row M (partsF m (nthC [.sn z0 1 0 o0 l0.length c0, .sn z1 2 0 o1 l1.length c1, .sn z2 3 0 o2 l2.length c2]))], shaT dn 0 f s, [.row 32 fun _ => .w8 0#8], [.row 64 fun i => .w8 (if i < k then L key i ^^^ 0x36#8 else L key i)], [.row 64 fun i => .w8 (if i < k then L key i ^^^ 0x5c#8 else L key i)]]⟩,
      fun k => k ≤ 64, fun k => 64 - k, ⟨0, [0, 1, 2, 3, 4, 5, 6, 7, 8], ⟨⟨rfl, rfl, rfl⟩, ?_⟩, by omega⟩, fun k hk => ⟨fun h => ?_, fun h => ?_⟩⟩
    · (repeat first | exact trivial | refine ent1 ?_)
      refine eqC_bts (eqC_bts (eqC_bts ⟨rfl, fun j hj => eqC_P123 hM, ?_⟩))
      (repeat first | exact trivial | refine ent1 ?_)
      refine ⟨fun j hj => eqC_w8 ?_, ?_⟩
      · exact hrow j
      · refine ⟨rfl, fun j hj => eqC_w8 ?_, ?_⟩
        · exact hrow j
        · (repeat first | exact trivial | refine ent1 ?_)
    · have hlt : (k : Int) < 64 := of_decide_eq_true h
      (repeat first | refine ⟨by omega, ?_⟩ | refine ⟨by decide, ?_⟩ | refine ⟨idx8 _, ?_⟩ | refine ⟨lt8 (Nat.le_refl _) _, ?_⟩)
      refine ⟨rfl, ?_⟩
      (repeat first | refine ⟨by omega, ?_⟩ | refine ⟨by decide, ?_⟩ | refine ⟨idx8 _, ?_⟩ | refine ⟨lt8 (Nat.le_refl _) _, ?_⟩)
      refine ⟨rfl, ⟨by omega, by omega⟩, k + 1, [0, 1, 2, 3, 4, 5, 6, 7, 8], ⟨⟨rfl, rfl, rfl⟩, ?_⟩, by dsimp only; omega, by dsimp only; omega⟩
      (repeat first | exact trivial | refine ent1 ?_)
      refine eqC_bts (eqC_bts (eqC_bts ⟨rfl, fun j hj => eqC_P123 hM, ?_⟩))
      (repeat first | exact trivial | refine ent1 ?_)
      have e0 : (k : Int).toNat + 0 = k := by omega
      rw [e0]
      have hx : ∀ (x : BitVec 8) (j : Nat), eqC [0, 1, 2, 3, 4, 5, 6, 7, 8] (upd (fun i => SC.w8 (if i < k then L key i ^^^ x else L key i)) k (.w8 ((if k < k then L key k ^^^ x else L key k) ^^^ x)) j) (.w8 (if j < k + 1 then L key j ^^^ x else L key j)) True := fun x j => by
        unfold upd
        by_cases hj : j = k
        · rw [if_pos hj, if_neg (Nat.lt_irrefl k), hj, if_pos (by omega)]; exact ⟨rfl, trivial⟩
        · have : j < k + 1 ↔ j < k := by omega
          rw [if_neg hj]; simp only [this]; exact ⟨rfl, trivial⟩
      exact ⟨fun j hj => hx _ j, rfl, fun j hj => hx _ j, by (repeat first | exact trivial | refine ent1 ?_)⟩
    · obtain rfl : k = 64 := by have : ¬ (k : Int) < 64 := of_decide_eq_false h; have hk : k ≤ 64 := hk; omega
      refine ⟨by kernel_rfl, call_same (fn_begin dn f s hd') [5] rfl (by (repeat first | exact trivial | refine ent1 ?_)) (by (repeat first | exact trivial | refine ent1 ?_)) (fun _ _ => trivial) ?_⟩
      rintro x hs ⟨rfl, rfl⟩
      obtain ⟨IN, hIN⟩ : ∃ IN, padL 0x36#8 key = IN := ⟨_, rfl⟩
      obtain ⟨OU, hOU⟩ : ∃ OU, padL 0x5c#8 key = OU := ⟨_, rfl⟩
      have hINl : IN.length = 64 := by rw [← hIN, padL_len]
      have hOUl : OU.length = 64 := by rw [← hOU, padL_len]
      have hINi : ∀ i, i < 64 → (if i < 64 then L key i ^^^ 0x36#8 else L key i) = L IN i := fun i hi => by rw [if_pos hi, ← hIN]; exact (L_tab (b := fun i => L key i ^^^ 0x36#8) hi).symm
      have hOUi : ∀ i, i < 64 → (if i < 64 then L key i ^^^ 0x5c#8 else L key i) = L OU i := fun i hi => by rw [if_pos hi, ← hOU]; exact (L_tab (b := fun i => L key i ^^^ 0x5c#8) hi).symm
      (repeat first | refine ⟨by omega, ?_⟩ | refine ⟨by decide, ?_⟩ | refine ⟨idx8 _, ?_⟩ | refine ⟨lt8 (Nat.le_refl _) _, ?_⟩ | refine ⟨rfl, ?_⟩)
      have hsw := fn_swrite false 64 64 64 0 (L IN) d0 0 (by decide) (by omega) (by omega) (fun h => Bool.noConfusion h)
      have e1 : pushN d0 (L IN) 64 = pushL d0 (IN ++ cat ps 0) := by rw [← hINl, pushN_L]; simp [cat]
      have e2 : (0 : BitVec 64) + BitVec.ofNat 64 64 = BitVec.ofNat 64 (IN ++ cat ps 0).length := by simp [cat, hINl]
      rw [e1, e2] at hsw
      refine call_same hsw [5, 7, 9] rfl (by (repeat first | exact trivial | refine ent1 ?_)) ?_ (fun _ _ => trivial) ?_
      · (repeat first | exact trivial | refine ent1 ?_)
        refine ⟨fun j hj => eqC_win (f := fun i => SC.w8 (if i < 64 then L key i ^^^ 0x36#8 else L key i)) (fun i hi => congrArg SC.w8 ?_) j, ?_⟩
        · rw [Nat.zero_add]; exact hINi i hi
        · (repeat first | exact trivial | refine ent1 ?_)
      rintro x hs ⟨rfl, rfl⟩
      (repeat first | refine ⟨by omega, ?_⟩ | refine ⟨by decide, ?_⟩ | refine ⟨idx8 _, ?_⟩ | refine ⟨lt8 (Nat.le_refl _) _, ?_⟩ | refine ⟨rfl, ?_⟩)
      refine .inl ⟨Nat, fun k => ⟨[.a (.c (.p 5 0 0)), .any, .any, .any, .any, .any, .a (.c (.p 6 0 0)), .any, .a (.c (.p 8 0 0)), .any, .any, .a (.c (.p 9 0 0)), .any, .any, .any, .any, .any, .any, .any, .any, .any, .any, .any, .any, .any, .any, .any, .any, .any, .any, .any, .any, .any, .any, .any, .any, .any, .any, .any, .any, .any, .any, .any, .any, .any, .any, .any, .any, .any, .any, .a (.c (.sl 4 0 0 m cm)), .a (.c (.int .i64 (↑m))), .a (.c (.int .i64 (↑k))), .any, .any, .any, .any, .any, .any, .any, .any, .any, .any, .any, .any], [bts false Nk ok key.length (L key), bts z0 N0 o0 l0.length (L l0), bts z1 N1 o1 l1.length (L l1), bts z2 N2 o2 l2.length (L l2), [.row M (partsF m (nthC [.sn z0 1 0 o0 l0.length c0, .sn z1 2 0 o1 l1.length c1, .sn z2 3 0 o2 l2.length c2]))], shaT 1 0 first steps, [.row 32 fun _ => .w8 0#8], [], [.row 64 fun i => .w8 (L OU i)], digC 5 (pushL d0 (IN ++ cat ps k)).V (pushL d0 (IN ++ cat ps k)).P (pushL d0 (IN ++ cat ps k)).h (BitVec.ofNat 64 (IN ++ cat ps k).length)]⟩,
        fun k => k ≤ m, fun k => m - k, ⟨0, [0, 1, 2, 3, 4, 5, 6, 7, 8, 9], ⟨⟨rfl, rfl, rfl⟩, ?_⟩, by omega⟩, fun k hk => ⟨fun h => ?_, fun h => ?_⟩⟩
      · (repeat first | exact trivial | refine ent1 ?_)
        refine eqC_bts (eqC_bts (eqC_bts ⟨rfl, fun j hj => eqC_P123 hM, ?_⟩))
        (repeat first | exact trivial | refine ent1 ?_)
        refine ⟨fun j hj => eqC_w8 (congrArg SC.w8 (hOUi j hj)), ?_⟩
        (repeat first | exact trivial | refine ent1 ?_)
      · have hlt : k < m := by have : (k : Int) < (m : Int) := of_decide_eq_true h; omega
        (repeat first | refine ⟨by omega, ?_⟩ | refine ⟨by decide, ?_⟩ | refine ⟨idx8 _, ?_⟩ | refine ⟨lt8 (Nat.le_refl _) _, ?_⟩)
        have e3 : (k : Int).toNat + 0 = k := by omega
        rw [e3]
        refine frc_parts hlt ?_
        obtain ⟨D, hD⟩ : ∃ D, pushL d0 (IN ++ cat ps k) = D := ⟨_, rfl⟩
        have hDl : D.h < 64 := by rw [← hD]; exact pushL_lt (by decide) _
        rw [hD]
        have hk3 : k = 0 ∨ k = 1 ∨ k = 2 := by omega
        rcases hk3 with rfl | rfl | rfl
        · obtain ⟨hk1, hl1⟩ := hl 0 l0 IN (by rw [← hps]; rfl)
          rw [hD] at hk1
          refine ⟨by kernel_rfl, call_same (fn_swrite z0 l0.length c0 N0 o0 (L l0) D (BitVec.ofNat 64 (IN ++ cat ps 0).length) hDl hN0 hc0 (fun h => by rw [hz0 h]; rfl)) [5, 1, 9] rfl (by (repeat first | exact trivial | refine ent1 ?_)) ?_ (fun _ _ => trivial) ?_⟩
          · (repeat first | exact trivial | refine ent1 ?_)
            refine eqC_bts ?_
            (repeat first | exact trivial | refine ent1 ?_)
          · rintro x hs ⟨rfl, rfl⟩
            rw [hk1, hl1]
            refine ⟨⟨by omega, by omega⟩, 1, [0, 1, 2, 3, 4, 5, 6, 7, 8, 9], ⟨⟨rfl, rfl, rfl⟩, ?_⟩, by dsimp only; omega, by dsimp only; omega⟩
            (repeat first | exact trivial | refine ent1 ?_)
            refine eqC_bts (eqC_bts (eqC_bts ⟨rfl, fun j hj => eqC_P123 hM, ?_⟩))
            (repeat first | exact trivial | refine ent1 ?_)
        · obtain ⟨hk1, hl1⟩ := hl 1 l1 IN (by rw [← hps]; rfl)
          rw [hD] at hk1
          refine ⟨by kernel_rfl, call_same (fn_swrite z1 l1.length c1 N1 o1 (L l1) D (BitVec.ofNat 64 (IN ++ cat ps 1).length) hDl hN1 hc1 (fun h => by rw [hz1 h]; rfl)) [5, 2, 9] rfl (by (repeat first | exact trivial | refine ent1 ?_)) ?_ (fun _ _ => trivial) ?_⟩
          · (repeat first | exact trivial | refine ent1 ?_)
            refine eqC_bts ?_
            (repeat first | exact trivial | refine ent1 ?_)
          · rintro x hs ⟨rfl, rfl⟩
            rw [hk1, hl1]
            refine ⟨⟨by omega, by omega⟩, 2, [0, 1, 2, 3, 4, 5, 6, 7, 8, 9], ⟨⟨rfl, rfl, rfl⟩, ?_⟩, by dsimp only; omega, by dsimp only; omega⟩
            (repeat first | exact trivial | refine ent1 ?_)
            refine eqC_bts (eqC_bts (eqC_bts ⟨rfl, fun j hj => eqC_P123 hM, ?_⟩))
            (repeat first | exact trivial | refine ent1 ?_)
        · obtain ⟨hk1, hl1⟩ := hl 2 l2 IN (by rw [← hps]; rfl)
          rw [hD] at hk1
          refine ⟨by kernel_rfl, call_same (fn_swrite z2 l2.length c2 N2 o2 (L l2) D (BitVec.ofNat 64 (IN ++ cat ps 2).length) hDl hN2 hc2 (fun h => by rw [hz2 h]; rfl)) [5, 3, 9] rfl (by (repeat first | exact trivial | refine ent1 ?_)) ?_ (fun _ _ => trivial) ?_⟩
          · (repeat first | exact trivial | refine ent1 ?_)
            refine eqC_bts ?_
            (repeat first | exact trivial | refine ent1 ?_)
          · rintro x hs ⟨rfl, rfl⟩
            rw [hk1, hl1]
            refine ⟨⟨by omega, by omega⟩, 3, [0, 1, 2, 3, 4, 5, 6, 7, 8, 9], ⟨⟨rfl, rfl, rfl⟩, ?_⟩, by dsimp only; omega, by dsimp only; omega⟩
            (repeat first | exact trivial | refine ent1 ?_)
            refine eqC_bts (eqC_bts (eqC_bts ⟨rfl, fun j hj => eqC_P123 hM, ?_⟩))
            (repeat first | exact trivial | refine ent1 ?_)
      · obtain rfl : k = m := by have : ¬ (k : Int) < (m : Int) := of_decide_eq_false h; have hk : k ≤ m := hk; omega
        obtain ⟨D, hD⟩ : ∃ D, pushL d0 (IN ++ cat ps k) = D := ⟨_, rfl⟩
        have hDl : D.h < 64 := by rw [← hD]; exact pushL_lt (by decide) _
        obtain ⟨S, hS⟩ : ∃ S, sumL (IN ++ cat ps k) = S := ⟨_, rfl⟩
        have hSl : S.length = 32 := by rw [← hS, sumL_len]
        have hSL : ∀ i, i < 32 → endV D (BitVec.ofNat 64 (IN ++ cat ps k).length) i = L S i := fun i hi => by rw [← hS, L_sumL _ hi, hD]
        have hM1 : markL key (cat ps k) = sumL (OU ++ S) := by unfold markL; rw [hK, hIN, hOU, hS]
        rw [hD]
        refine ⟨by kernel_rfl, call_same (fn_send D (BitVec.ofNat 64 (IN ++ cat ps k).length) hDl) [5, 9] rfl (by (repeat first | exact trivial | refine ent1 ?_)) (by (repeat first | exact trivial | refine ent1 ?_)) (fun _ _ => trivial) ?_⟩
        rintro x hs ⟨rfl, V', P', h', a', rfl⟩
        (repeat first | refine ⟨by omega, ?_⟩ | refine ⟨by decide, ?_⟩ | refine ⟨idx8 _, ?_⟩ | refine ⟨lt8 (Nat.le_refl _) _, ?_⟩ | refine ⟨rfl, ?_⟩)
        refine ⟨some [], [], [(0, true), (1, true), (2, true), (3, false), (4, false)], [5], by kernel_rfl, ?_⟩
        (repeat first | refine ⟨by omega, ?_⟩ | refine ⟨by decide, ?_⟩ | refine ⟨idx8 _, ?_⟩ | refine ⟨lt8 (Nat.le_refl _) _, ?_⟩ | refine ⟨rfl, ?_⟩)
        refine call_same (fn_ssum3 false false true 64 32 0 0 0 0 64 32 0 OU S [] 2 2 2 1 first steps (.inr ⟨rfl, rfl, rfl⟩) (by omega) (by omega) (by decide) (by omega) (by omega) (by decide) (fun h => Bool.noConfusion h) (fun h => Bool.noConfusion h) (fun _ => rfl) (by decide) (by decide)) [8, 10, 10, 11, 5] rfl (by (repeat first | exact trivial | refine ent1 ?_)) ?_ (fun _ _ => trivial) ?_
        · (repeat first | exact trivial | refine ent1 ?_)
          refine ⟨fun j hj => eqC_win8 (fun i hi => rfl) j, ?_⟩
          (repeat first | exact trivial | refine ent1 ?_)
          refine ⟨fun j hj => eqC_win8 (fun i hi => hSL i (by omega)) j, ?_⟩
          (repeat first | exact trivial | refine ent1 ?_)
          refine ⟨fun j hj => eqC_parts (fun i hi => ?_) j, ?_⟩
          · have : i = 0 ∨ i = 1 := by omega
            rcases this with rfl | rfl
            · exact ⟨rfl, rfl, hOUl.symm, rfl, trivial⟩
            · exact ⟨rfl, rfl, hSl.symm, rfl, trivial⟩
          · (repeat first | exact trivial | refine ent1 ?_)
        rintro x hs ⟨rfl, rfl⟩
        (repeat first | refine ⟨by omega, ?_⟩ | refine ⟨by decide, ?_⟩ | refine ⟨idx8 _, ?_⟩ | refine ⟨lt8 (Nat.le_refl _) _, ?_⟩ | refine ⟨rfl, ?_⟩)
        have hcat : cat (ps3 OU S []) 2 = OU ++ S := by simp [cat, ps3]
        rw [hcat]
        refine ⟨.a (.agg [.row 32 fun i => .w8 (L (markL key (cat ps k)) i)]), [bts false Nk ok key.length (L key), bts z0 N0 o0 l0.length (L l0), bts z1 N1 o1 l1.length (L l1), bts z2 N2 o2 l2.length (L l2), [.row M (partsF k (nthC [.sn z0 1 0 o0 l0.length c0, .sn z1 2 0 o1 l1.length c1, .sn z2 3 0 o2 l2.length c2]))], shaT 1 0 first steps], ⟨[0, 1, 2, 3, 4, 5], ⟨rfl, rfl, rfl⟩, ?_⟩, rfl, rfl⟩
        rw [hM1]
        (repeat first | exact trivial | refine ent1 ?_)
        refine eqC_bts (eqC_bts (eqC_bts ⟨rfl, fun j hj => eqC_P123 hM, ?_⟩))
        (repeat first | exact trivial | refine ent1 ?_)
end Sx
end Go.Proofs.Ytkjdkeolkigibaa
end

section
/-
  SHA-256: a message filled up; the document's words. Plain. No condition.
-/
namespace Go.Proofs.Ytkjdkeolkigibaa
set_option linter.unusedVariables false
namespace Sha

theorem compress_congr (V : Nat → BitVec 32) {P P' : Nat → BitVec 8} (h : ∀ i, i < 64 → P i = P' i) : compress V P = compress V P' := by
  have e0 : ∀ i, i < 16 → w0 P i = w0 P' i := fun i hi => by
    unfold w0; rw [h _ (by omega), h _ (by omega), h _ (by omega), h _ (by omega)]
  have e1 : ∀ k i, wS P k i = wS P' k i := by
    intro k
    induction k with
    | zero =>
      intro i
      by_cases hi : i < 16
      · simp only [wS, if_pos hi, e0 i hi]
      · simp only [wS, if_neg hi]
    | succ k ih => intro i; simp only [wS, ih]
  have e2 : wS P 48 = wS P' 48 := funext fun i => e1 48 i
  funext i
  unfold compress
  rw [e2]
theorem pushN_h0 (d : Dg) (b : Nat → BitVec 8) (h : d.h = 0) : (pushN d b 64).V = compress d.V b := by
  rw [pushN_fill d b 64 (by omega) (by omega)]
  refine compress_congr d.V fun i hi => ?_
  rw [if_pos (by omega), h, Nat.sub_zero]
theorem push_h (d : Dg) (x : BitVec 8) : (push d x).h = if d.h + 1 = 64 then 0 else d.h + 1 := by
  unfold push
  split <;> rfl
theorem pushL_h (l : Bs) : ∀ d : Dg, d.h < 64 → (pushL d l).h = (d.h + l.length) % 64 := by
  induction l with
  | nil => intro d h; show d.h = (d.h + 0) % 64; omega
  | cons x l ih =>
    intro d h
    show (pushL (push d x) l).h = _
    rw [ih _ (push_lt h x), push_h, List.length_cons]
    split <;> omega
/-- What comes behind a message. -/
def padT (n : Nat) : Bs := tab (padP (n % 64) + 8) (padB (padP (n % 64)) (BitVec.ofNat 64 n * 8#64))
def full (l : Bs) : Bs := l ++ padT l.length
@[simp] theorem padT_len (n : Nat) : (padT n).length = padP (n % 64) + 8 := tab_len _ _
theorem full_len (l : Bs) : (full l).length = l.length + (padP (l.length % 64) + 8) := by simp [full]
theorem full_64 (l : Bs) : ∃ q, (full l).length = 64 * q ∧ l.length + 9 ≤ 64 * q ∧ 64 * q ≤ l.length + 72 := by
  have h : l.length % 64 < 64 := Nat.mod_lt _ (by omega)
  have h2 : (l.length % 64 + padP (l.length % 64)) % 64 = 56 := by
    have h3 := padP_le h
    have := (padP_iff (k := padP (l.length % 64) - 1) h (by omega)).2 (by omega)
    rwa [show padP (l.length % 64) - 1 + 1 = padP (l.length % 64) by omega] at this
  have h3 := padP_le h
  refine ⟨(full l).length / 64, ?_, ?_, ?_⟩ <;> rw [full_len] <;> omega
theorem sumL_full (l : Bs) : sumL l = tab 32 (outW (pushL d0 (full l)).V) := by
  have h : (pushL d0 l).h = l.length % 64 := by rw [pushL_h l d0 (by decide)]; show (0 + _) % 64 = _; rw [Nat.zero_add]
  have e : endD (pushL d0 l) (BitVec.ofNat 64 l.length) = pushL d0 (full l) := by
    unfold endD
    rw [pushN_tab, h, full, pushL_app, padT]
  have e2 : endV (pushL d0 l) (BitVec.ofNat 64 l.length) = outW (pushL d0 (full l)).V := by
    funext i
    unfold endV
    rw [e]
  unfold sumL
  rw [e2]
/-- The words when k blocks of l are gone through. -/
def wordsAt (l : Bs) (k : Nat) : Dg := pushL d0 (l.take (64 * k))
theorem wordsAt_h (l : Bs) (k : Nat) (h : 64 * k ≤ l.length) : (wordsAt l k).h = 0 := by
  unfold wordsAt
  rw [pushL_h _ _ (by decide), List.length_take]
  show (0 + min (64 * k) l.length) % 64 = 0
  omega
theorem wordsAt_succ (l : Bs) (k : Nat) (h : 64 * (k + 1) ≤ l.length) : (wordsAt l (k + 1)).V = compress (wordsAt l k).V (fun i => L l (64 * k + i)) := by
  have e : l.take (64 * (k + 1)) = l.take (64 * k) ++ (l.drop (64 * k)).take 64 := by
    rw [show 64 * (k + 1) = 64 * k + 64 by omega, List.take_add]
  show (pushL d0 (l.take (64 * (k + 1)))).V = _
  rw [e, pushL_app]
  show (pushL (wordsAt l k) _).V = _
  rw [← pushN_of (wordsAt l k) (b := fun i => L l (64 * k + i)) (n := 64), pushN_h0 _ _ (wordsAt_h l k (by omega))]
  · simp only [List.length_take, List.length_drop]; omega
  · intro i hi
    rw [L_take _ _ _ hi, L_drop]
end Sha
end Go.Proofs.Ytkjdkeolkigibaa
end

section
/-
  SHA-256: the document's sum. No condition.
-/
namespace Go.Proofs.Ytkjdkeolkigibaa
set_option linter.unusedVariables false
namespace Sx
open Sha

end Sx
end Go.Proofs.Ytkjdkeolkigibaa
end

section
/-
  SHA-256: the document's mark. No condition.
-/
namespace Go.Proofs.Ytkjdkeolkigibaa
set_option linter.unusedVariables false
namespace Sx
open Sha

end Sx
end Go.Proofs.Ytkjdkeolkigibaa
end

section
/-
  SHA-256 reckoned by the kernel: the same sums, each word made whole before it is used. Plain. No condition.
-/
namespace Go.Proofs.Ytkjdkeolkigibaa
set_option linter.unusedVariables false
namespace Sha
section
variable {α : Sort _}
def frcE (n : Nat) (k : Nat → α) : α := match n with
  | 0 => k 0
  | m + 1 => k (m + 1)
theorem frcE_eq (n : Nat) (k : Nat → α) : frcE n k = k n := by cases n <;> rfl
def frcW (x : BitVec 32) (k : BitVec 32 → α) : α := frcE x.toNat fun n => k (BitVec.ofNat 32 n)
theorem frcW_eq (x : BitVec 32) (k : BitVec 32 → α) : frcW x k = k x := by unfold frcW; rw [frcE_eq, BitVec.ofNat_toNat, BitVec.setWidth_eq]
def frc8 (x : BitVec 8) (k : BitVec 8 → α) : α := frcE x.toNat fun n => k (BitVec.ofNat 8 n)
theorem frc8_eq (x : BitVec 8) (k : BitVec 8 → α) : frc8 x k = k x := by unfold frc8; rw [frcE_eq, BitVec.ofNat_toNat, BitVec.setWidth_eq]
/-- n bytes, each made whole. -/
def tabK (b : Nat → BitVec 8) : Nat → Nat → (Bs → α) → α
  | 0, _, k => k []
  | n + 1, i, k => frc8 (b i) fun x => tabK b n (i + 1) fun l => k (x :: l)
theorem tabK_eq' (b : Nat → BitVec 8) : ∀ (n i : Nat) (k : Bs → α), tabK b n i k = k (tab n fun j => b (i + j))
  | 0, _, _ => rfl
  | n + 1, i, k => by
    simp only [tabK]
    rw [frc8_eq, tabK_eq']
    congr 1
    unfold tab
    rw [List.range_succ_eq_map]
    simp only [List.map_cons, Nat.add_zero, List.map_map, Function.comp_def]
    congr 1
    apply List.map_congr_left
    intro j _
    congr 1; omega
theorem tabK_eq (b : Nat → BitVec 8) (n : Nat) (k : Bs → α) : tabK b n 0 k = k (tab n b) := by rw [tabK_eq']; simp
/-- The first sixteen words, the newest first. -/
def startK (P : Nat → BitVec 8) : Nat → Nat → List (BitVec 32) → (List (BitVec 32) → α) → α
  | 0, _, l, k => k l
  | n + 1, i, l, k => frcW (w0 P i) fun x => startK P n (i + 1) (x :: l) k
def schedK : Nat → List (BitVec 32) → (List (BitVec 32) → α) → α
  | 0, l, k => k l
  | n + 1, l, k => frcW (l.getD 15 0 + sig0 (l.getD 14 0) + l.getD 6 0 + sig1 (l.getD 1 0)) fun x => schedK n (x :: l) k
def roundK : List (BitVec 32) → List (BitVec 32) → BitVec 32 → BitVec 32 → BitVec 32 → BitVec 32 → BitVec 32 → BitVec 32 → BitVec 32 → BitVec 32 → (List (BitVec 32) → α) → α
  | w :: ws, s :: ss, a, b, c, d, e, f, g, h, k =>
    frcW (h + (ror e 6 ^^^ ror e 11 ^^^ ror e 25) + ((e &&& f) ^^^ (~~~e &&& g)) + s + w) fun one =>
    frcW ((ror a 2 ^^^ ror a 13 ^^^ ror a 22) + ((a &&& b) ^^^ (a &&& c) ^^^ (b &&& c))) fun two =>
    frcW (one + two) fun a' => frcW (d + one) fun e' => roundK ws ss a' a b c e' e f g k
  | _, _, a, b, c, d, e, f, g, h, k => k [a, b, c, d, e, f, g, h]
def addK : List (BitVec 32) → List (BitVec 32) → (List (BitVec 32) → α) → α
  | x :: l, y :: m, k => frcW (x + y) fun z => addK l m fun r => k (z :: r)
  | _, _, k => k []
def comprK (V : List (BitVec 32)) (P : Nat → BitVec 8) (k : List (BitVec 32) → α) : α :=
  startK P 16 0 [] fun l => schedK 48 l fun l =>
  roundK l.reverse (stepsL.map (BitVec.ofNat 32)) (V.getD 0 0) (V.getD 1 0) (V.getD 2 0) (V.getD 3 0) (V.getD 4 0) (V.getD 5 0) (V.getD 6 0) (V.getD 7 0) fun v => addK V v k
def blocksK (l : Bs) : Nat → Nat → List (BitVec 32) → (List (BitVec 32) → α) → α
  | 0, _, V, k => k V
  | n + 1, i, V, k => comprK V (fun j => L l (64 * i + j)) fun V => blocksK l n (i + 1) V k
/-- The sum of l. -/
def sumK (l : Bs) (k : Bs → α) : α :=
  tabK (L (full l)) (full l).length 0 fun m => blocksK m (m.length / 64) 0 (firstL.map (BitVec.ofNat 32)) fun V => tabK (outW fun i => V.getD i 0) 32 0 k
end
section
variable {α : Sort _}
def l8 (v : Nat → BitVec 32) : List (BitVec 32) := [v 0, v 1, v 2, v 3, v 4, v 5, v 6, v 7]
theorem l8_get (v : Nat → BitVec 32) {j : Nat} (h : j < 8) : (l8 v).getD j 0 = v j := by
  have : j = 0 ∨ j = 1 ∨ j = 2 ∨ j = 3 ∨ j = 4 ∨ j = 5 ∨ j = 6 ∨ j = 7 := by omega
  rcases this with rfl | rfl | rfl | rfl | rfl | rfl | rfl | rfl <;> rfl
/-- The newest first. -/
def Rep (l : List (BitVec 32)) (m : Nat) (W : Nat → BitVec 32) : Prop := l.length = m ∧ ∀ j, j < m → l.getD (m - 1 - j) 0 = W j
theorem Rep.cons {l : List (BitVec 32)} {m : Nat} {W : Nat → BitVec 32} (h : Rep l m W) : Rep (W m :: l) (m + 1) W :=
  ⟨by simp [h.1], fun j hj => by
    by_cases e : j = m
    · subst e; rw [show j + 1 - 1 - j = 0 by omega]; rfl
    · rw [show m + 1 - 1 - j = (m - 1 - j) + 1 by omega, List.getD_cons_succ]
      exact h.2 j (by omega)⟩
theorem startK_eq (P : Nat → BitVec 8) (W : Nat → BitVec 32) : ∀ (n i : Nat) (l : List (BitVec 32)), (∀ j, j < i + n → w0 P j = W j) → Rep l i W → ∃ l', Rep l' (i + n) W ∧ ∀ k : List (BitVec 32) → α, startK P n i l k = k l'
  | 0, i, l, _, h => ⟨l, h, fun _ => rfl⟩
  | n + 1, i, l, hW, h => by
    obtain ⟨l', h1, h2⟩ := startK_eq P W n (i + 1) (W i :: l) (fun j hj => hW j (by omega)) h.cons
    exact ⟨l', by rwa [show i + (n + 1) = i + 1 + n by omega], fun k => by simp only [startK]; rw [frcW_eq, hW i (by omega), h2]⟩
theorem schedK_eq (W : Nat → BitVec 32) : ∀ (n m : Nat) (l : List (BitVec 32)), (∀ j, j < n → W (m + 16 + j) = W (m + j) + sig0 (W (m + j + 1)) + W (m + j + 9) + sig1 (W (m + j + 14))) → Rep l (m + 16) W → ∃ l', Rep l' (m + 16 + n) W ∧ ∀ k : List (BitVec 32) → α, schedK n l k = k l'
  | 0, m, l, _, h => ⟨l, h, fun _ => rfl⟩
  | n + 1, m, l, hW, h => by
    have e0 := hW 0 (by omega)
    simp only [Nat.add_zero] at e0
    have g : ∀ i, i < 16 → l.getD i 0 = W (m + 15 - i) := fun i hi => by
      have := h.2 (m + 15 - i) (by omega)
      rwa [show m + 16 - 1 - (m + 15 - i) = i by omega] at this
    have e1 : l.getD 15 0 + sig0 (l.getD 14 0) + l.getD 6 0 + sig1 (l.getD 1 0) = W (m + 16) := by
      rw [g 15 (by omega), g 14 (by omega), g 6 (by omega), g 1 (by omega), e0]
      rw [show m + 15 - 15 = m by omega, show m + 15 - 14 = m + 1 by omega, show m + 15 - 6 = m + 9 by omega, show m + 15 - 1 = m + 14 by omega]
    obtain ⟨l', h1, h2⟩ := schedK_eq W n (m + 1) (W (m + 16) :: l) (fun j hj => by
      have := hW (j + 1) (by omega)
      rw [show m + 1 + 16 + j = m + 16 + (j + 1) by omega, show m + 1 + j = m + (j + 1) by omega]
      exact this) (by have := h.cons; rwa [show m + 1 + 16 = m + 16 + 1 by omega])
    exact ⟨l', by rwa [show m + 16 + (n + 1) = m + 1 + 16 + n by omega], fun k => by simp only [schedK]; rw [frcW_eq, e1, h2]⟩
theorem wS_up (P : Nat → BitVec 8) (k i : Nat) (hi : i < 16 + k) : ∀ n, wS P (k + n) i = wS P k i
  | 0 => rfl
  | n + 1 => by
    rw [← Nat.add_assoc]
    simp only [wS]
    rw [if_neg (by omega), wS_up P k i hi n]
theorem wS_at (P : Nat → BitVec 8) (k i : Nat) (hi : i < 16 + k) (hk : k ≤ 48) : wS P 48 i = wS P k i := by
  have := wS_up P k i hi (48 - k)
  rwa [show k + (48 - k) = 48 by omega] at this
theorem wS_new (P : Nat → BitVec 8) (k : Nat) (hk : k < 48) : wS P 48 (16 + k) = wS P 48 k + sig0 (wS P 48 (k + 1)) + wS P 48 (k + 9) + sig1 (wS P 48 (k + 14)) := by
  rw [wS_at P (k + 1) (16 + k) (by omega) (by omega), wS_at P k k (by omega) (by omega), wS_at P k (k + 1) (by omega) (by omega), wS_at P k (k + 9) (by omega) (by omega), wS_at P k (k + 14) (by omega) (by omega)]
  simp only [wS]
  rw [if_pos trivial]
theorem roundK_eq (W V : Nat → BitVec 32) (k : List (BitVec 32) → α) : ∀ (n i : Nat) (v : Nat → BitVec 32), vR W V i = v →
    roundK ((List.range n).map fun j => W (i + j)) ((List.range n).map fun j => steps (i + j)) (v 0) (v 1) (v 2) (v 3) (v 4) (v 5) (v 6) (v 7) k = k (l8 (vR W V (i + n)))
  | 0, i, v, h => by subst h; rfl
  | n + 1, i, v, h => by
    rw [List.range_succ_eq_map, List.map_cons, List.map_cons, roundK, frcW_eq, frcW_eq, frcW_eq, frcW_eq, List.map_map, List.map_map]
    have := roundK_eq W V k n (i + 1) (next v (steps i) (W i)) (by simp only [vR, h])
    rw [show i + (n + 1) = i + 1 + n by omega, ← this]
    have e1 : ((fun j => W (i + j)) ∘ Nat.succ) = fun j => W (i + 1 + j) := funext fun j => congrArg W (show i + (j + 1) = i + 1 + j by omega)
    have e2 : ((fun j => steps (i + j)) ∘ Nat.succ) = fun j => steps (i + 1 + j) := funext fun j => congrArg steps (show i + (j + 1) = i + 1 + j by omega)
    rw [e1, e2]
    rfl
theorem comprK_eq (V : Nat → BitVec 32) (P : Nat → BitVec 8) (k : List (BitVec 32) → α) : comprK (l8 V) P k = k (l8 (compress V P)) := by
  unfold comprK
  obtain ⟨W, hW⟩ : ∃ W, wS P 48 = W := ⟨_, rfl⟩
  obtain ⟨l1, a1, a2⟩ := startK_eq (α := α) P W 16 0 [] (fun j hj => by rw [← hW, wS_at P 0 j (by omega) (by omega)]; simp only [wS]; rw [if_pos (by omega)]) ⟨rfl, fun j hj => absurd hj (by omega)⟩
  rw [a2]
  obtain ⟨l2, b1, b2⟩ := schedK_eq (α := α) W 48 0 l1 (fun j hj => by
    rw [← hW]
    simp only [Nat.zero_add]
    exact wS_new P j hj) a1
  rw [b2]
  have hrev : l2.reverse = (List.range 64).map fun j => W (0 + j) := by
    apply List.ext_getElem
    · simp [b1.1]
    · intro j h1 h2
      have hj : j < 64 := by simpa using h2
      have := b1.2 j hj
      rw [List.getD_eq_getElem?_getD, List.getElem?_eq_getElem (by rw [b1.1]; omega)] at this
      simp only [List.getElem_reverse, List.getElem_map, List.getElem_range, Nat.zero_add, b1.1]
      exact this
  have hst : stepsL.map (BitVec.ofNat 32) = (List.range 64).map fun j => steps (0 + j) := by
    apply List.ext_getElem
    · rfl
    · intro j h1 h2
      have hj : j < stepsL.length := by simpa using h1
      simp only [List.getElem_map, List.getElem_range, Nat.zero_add]
      unfold steps
      rw [List.getD_eq_getElem?_getD, List.getElem?_eq_getElem hj]
      rfl
  rw [hrev, hst]
  have h8 := fun j hj => l8_get V (j := j) hj
  rw [h8 0 (by omega), h8 1 (by omega), h8 2 (by omega), h8 3 (by omega), h8 4 (by omega), h8 5 (by omega), h8 6 (by omega), h8 7 (by omega)]
  rw [roundK_eq W V _ 64 0 V rfl]
  simp only [l8, addK, frcW_eq]
  unfold compress
  rw [hW]
theorem blocksK_eq (m : Bs) (k : List (BitVec 32) → α) : ∀ (n i : Nat), 64 * (i + n) ≤ m.length → blocksK m n i (l8 (wordsAt m i).V) k = k (l8 (wordsAt m (i + n)).V)
  | 0, _, _ => rfl
  | n + 1, i, h => by
    simp only [blocksK]
    rw [comprK_eq, ← wordsAt_succ m i (by omega), blocksK_eq m k n (i + 1) (by omega), show i + (n + 1) = i + 1 + n by omega]
theorem sumK_eq (l : Bs) (k : Bs → α) : sumK l k = k (sumL l) := by
  obtain ⟨Q, hQ, _⟩ := full_64 l
  unfold sumK
  rw [tabK_eq, tab_L, hQ, show 64 * Q / 64 = Q by omega]
  have h0 : firstL.map (BitVec.ofNat 32) = l8 (wordsAt (full l) 0).V := by
    show _ = l8 (pushL d0 ((full l).take (64 * 0))).V
    rw [Nat.mul_zero, List.take_zero]
    rfl
  rw [h0, blocksK_eq (full l) _ Q 0 (by omega), tabK_eq, sumL_full]
  have h1 : (wordsAt (full l) (0 + Q)) = pushL d0 (full l) := by
    unfold wordsAt
    rw [Nat.zero_add, ← hQ, List.take_length]
  rw [h1]
  congr 1
/-- A mark. -/
def padK (x : BitVec 8) (K : Bs) (k : Bs → α) : α := tabK (fun i => L K i ^^^ x) 64 0 k
def keyK (key : Bs) (k : Bs → α) : α := if 64 < key.length then sumK key k else k key
def markK (key m : Bs) (k : Bs → α) : α := keyK key fun K => padK 0x36#8 K fun i => padK 0x5c#8 K fun o => sumK (i ++ m) fun s => sumK (o ++ s) k
theorem markK_eq (key m : Bs) (k : Bs → α) : markK key m k = k (markL key m) := by
  have e : ∀ k' : Bs → α, keyK key k' = k' (keyL key) := fun k' => by
    unfold keyK keyL
    split
    · exact sumK_eq _ _
    · rfl
  unfold markK padK
  rw [e, tabK_eq, tabK_eq, sumK_eq, sumK_eq]
  rfl
end
theorem sum_by {l : Bs} {p : Bs → Bool} (h : sumK l p = true) : p (sumL l) = true := by rwa [sumK_eq] at h
theorem mark_by {key m : Bs} {p : Bs → Bool} (h : markK key m p = true) : p (markL key m) = true := by rwa [markK_eq] at h
end Sha
end Go.Proofs.Ytkjdkeolkigibaa
end

section
/-
  SHA-256: the law's fixed fact; marks. No condition.
-/
namespace Go.Proofs.Ytkjdkeolkigibaa
set_option linter.unusedVariables false
namespace Sha
theorem cat2 (a b c : Bs) : cat (ps3 a b c) 2 = a ++ b := by simp [cat, ps3]
theorem cat1 (a b c : Bs) : cat (ps3 a b c) 1 = a := by simp [cat, ps3]
theorem cat3 (a b c : Bs) : cat (ps3 a b c) 3 = a ++ b ++ c := by simp [cat, ps3]
end Sha
namespace Sx
open Sha

end Sx
end Go.Proofs.Ytkjdkeolkigibaa
end

section
/-
  Secrets out of secrets: the program's Expand. No condition.
-/
namespace Go.Proofs.Ytkjdkeolkigibaa
set_option linter.unusedVariables false
namespace Sha
/-- The k-th mark. -/
def exT (s about : Bs) : Nat → Bs
  | 0 => []
  | k + 1 => markL s (exT s about k ++ about ++ [BitVec.ofNat 8 (k + 1)])
/-- The first k marks. -/
def exL (s about : Bs) : Nat → Bs
  | 0 => []
  | k + 1 => exL s about k ++ exT s about (k + 1)
theorem exT_len (s about : Bs) (k : Nat) : (exT s about (k + 1)).length = 32 := markL_len _ _
theorem exL_len (s about : Bs) : ∀ k, (exL s about k).length = 32 * k
  | 0 => rfl
  | k + 1 => by simp only [exL, List.length_append, exL_len s about k, exT_len]; omega
def exF (s about : Bs) (i : Nat) : BitVec 8 := L (exL s about (i / 32 + 1)) i
theorem exL_up (s about : Bs) (k i : Nat) (hi : i < 32 * k) : ∀ n, L (exL s about (k + n)) i = L (exL s about k) i
  | 0 => rfl
  | n + 1 => by
    rw [← Nat.add_assoc]
    simp only [exL]
    rw [L_app1 (by rw [exL_len]; omega), exL_up s about k i hi n]
theorem exL_at (s about : Bs) (k i : Nat) (hi : i < 32 * k) : L (exL s about k) i = exF s about i := by
  unfold exF
  have := exL_up s about (i / 32 + 1) i (by omega) (k - (i / 32 + 1))
  rwa [show i / 32 + 1 + (k - (i / 32 + 1)) = k by omega] at this
end Sha
namespace Sx
open Sha

theorem eqC_n3 {q : List Nat} {a b c a' b' c' : SC} {m : Nat} (hm : m ≤ 3) (h0 : eqC q a a' True) (h1 : 1 < m → eqC q b b' True) (h2 : 2 < m → eqC q c c' True) (j : Nat) : eqC q (nthC [a, b, c] j) (partsF m (nthC [a', b', c']) j) True :=
  eqC_parts (f := nthC [a, b, c]) (fun i hi => by
    have : i = 0 ∨ i = 1 ∨ i = 2 := by omega
    rcases this with rfl | rfl | rfl
    · exact h0
    · exact h1 hi
    · exact h2 hi) j
set_option maxRecDepth 20000 in
set_option maxHeartbeats 2000000 in
theorem fn_kexpand (za : Bool) (Na oa ca : Nat) (s about : Bs) (many : Int) (dn : BitVec 32) (f g : Nat → BitVec 32) (hd : dn = 0#32 ∨ dn = 1#32 ∧ f = first ∧ g = steps)
    (hs : s.length = 32) (hNa : oa + about.length ≤ Na) (hca : about.length ≤ ca) (hza : za = true → about = []) :
    FnR Try.prog tds 96 1 [bts za Na oa about.length (L about), shaT dn 0 f g] [.c (.p 1 0 0), .agg [.row 32 fun i => .w8 (L s i)], .c (.sn za 0 0 oa about.length ca), .c (.int .i64 many)] (fun _ => True)
      (fun x hs => ((many < 0 ∨ 8160 < many) → x = .tup [.c (.slc none 0 0), .c (.int .i64 2)] ∧ hs = [bts za Na oa about.length (L about), shaT dn 0 f g]) ∧
        (0 ≤ many → many ≤ 8160 → ∃ (z : Bool) (N : Nat) (dn' : BitVec 32) (f' g' : Nat → BitVec 32), (dn' = 0#32 ∨ dn' = 1#32 ∧ f' = first ∧ g' = steps) ∧ (z = true → many.toNat = 0) ∧ (0 < many → z = false) ∧ many.toNat ≤ N ∧
          x = .tup [.c (.sn z 2 0 0 many.toNat many.toNat), .c (.int .i64 0)] ∧ hs = [bts za Na oa about.length (L about), shaT dn' 0 f' g', bts z N 0 many.toNat (exF s about)])) := by
  refine fn_of_body tds_ok follows_ Try.func96 rfl (t := [.a (.c (.p 1 0 0)), .a (.agg [.row 32 fun i => .w8 (L s i)]), .a (.c (.sn za 0 0 oa about.length ca)), .a (.c (.int .i64 (many))), .any, .any, .any, .any, .any, .any, .any, .any, .any, .any, .any, .any, .any, .any, .any, .any, .any, .any, .any, .any, .any, .any, .any, .any, .any, .any, .any, .any, .any, .any, .any, .any, .any, .any, .any, .any, .any, .any, .any, .any, .any, .any, .any]) rfl (fun w r0 hr _ => ?_)
  obtain ⟨x0, x1, rfl⟩ := len2' hr
  (repeat first | refine And.intro (by omega) ?_ | refine And.intro (by decide) ?_ | (with_reducible refine frc_parts (by first | omega | decide) ?_) | (with_reducible refine frc_bytesL (by first | omega | decide) ?_) | refine And.intro rfl ?_)
  refine ⟨fun h => Bool.noConfusion h, fun _ => ?_⟩
  by_cases h0 : many < 0
  · have e0 : decide (many < 0) = true := decide_eq_true h0
    (repeat first | refine ⟨fun _ => ?_, fun h => absurd h (by rw [e0]; decide)⟩ | refine ⟨fun h => absurd h (by rw [e0]; decide), fun _ => ?_⟩ | refine ⟨fun _ => ?_, fun h => Bool.noConfusion h⟩ | refine ⟨fun h => Bool.noConfusion h, fun _ => ?_⟩)
    refine ⟨.tup [.c (.slc none 0 0), .c (.int .i64 2)], [bts za Na oa about.length (L about), shaT dn 0 f g], ⟨[0, 1], ⟨rfl, rfl, rfl⟩, ?_⟩, fun _ => ⟨rfl, rfl⟩, fun h => absurd h0 (by omega)⟩
    (repeat first | exact trivial | refine ent1 ?_)
    refine eqC_bts ?_
    (repeat first | exact trivial | refine ent1 ?_)
  have e0 : decide (many < 0) = false := decide_eq_false h0
  by_cases h1 : 8160 < many
  · have e1 : decide (8160 < many) = true := decide_eq_true h1
    (repeat first | refine ⟨fun _ => ?_, fun h => absurd h (by rw [e0]; decide)⟩ | refine ⟨fun h => absurd h (by rw [e0]; decide), fun _ => ?_⟩ | refine ⟨fun _ => ?_, fun h => absurd h (by rw [e1]; decide)⟩ | refine ⟨fun h => absurd h (by rw [e1]; decide), fun _ => ?_⟩ | refine ⟨fun _ => ?_, fun h => Bool.noConfusion h⟩ | refine ⟨fun h => Bool.noConfusion h, fun _ => ?_⟩)
    refine ⟨.tup [.c (.slc none 0 0), .c (.int .i64 2)], [bts za Na oa about.length (L about), shaT dn 0 f g], ⟨[0, 1], ⟨rfl, rfl, rfl⟩, ?_⟩, fun _ => ⟨rfl, rfl⟩, fun _ h => absurd h1 (by omega)⟩
    (repeat first | exact trivial | refine ent1 ?_)
    refine eqC_bts ?_
    (repeat first | exact trivial | refine ent1 ?_)
  have e1 : decide (8160 < many) = false := decide_eq_false h1
  (repeat first | refine ⟨fun _ => ?_, fun h => absurd h (by rw [e0]; decide)⟩ | refine ⟨fun h => absurd h (by rw [e0]; decide), fun _ => ?_⟩ | refine ⟨fun _ => ?_, fun h => absurd h (by rw [e1]; decide)⟩ | refine ⟨fun h => absurd h (by rw [e1]; decide), fun _ => ?_⟩ | refine ⟨fun _ => ?_, fun h => Bool.noConfusion h⟩ | refine ⟨fun h => Bool.noConfusion h, fun _ => ?_⟩)
  obtain ⟨n, rfl⟩ : ∃ n : Nat, many = n := ⟨many.toNat, by omega⟩
  refine .inl ⟨Option (Nat × Nat), fun x => match x with
    | none => ⟨[.a (.c (.p 1 0 0)), .any, .a (.c (.sn za 0 0 oa about.length ca)), .a (.c (.int .i64 (↑n))), .any, .a (.c (.p 2 0 0)), .any, .any, .any, .any, .a (.c (.slc none 0 0)), .a (.c (.slc none 0 0)), .a (.c (.int .i64 (1))), .any, .any, .any, .any, .any, .any, .any, .any, .any, .any, .any, .any, .any, .any, .any, .any, .any, .any, .any, .any, .any, .any, .any, .any, .any, .any, .any, .any, .any, .any, .any, .any, .any, .any], [bts za Na oa about.length (L about), shaT dn 0 f g, [.row 32 fun i => .w8 (L s i)]]⟩
    | some (k, c) => ⟨[.a (.c (.p 1 0 0)), .any, .a (.c (.sn za 0 0 oa about.length ca)), .a (.c (.int .i64 (↑n))), .any, .a (.c (.p 2 0 0)), .any, .any, .any, .any, .a (.c (.sl 3 0 0 (32 * (k + 1)) c)), .a (.c (.sl 4 0 0 32 32)), .a (.c (.int .i64 (((k + 2 : Nat) : Int)))), .any, .any, .any, .any, .any, .any, .any, .any, .any, .any, .any, .any, .any, .any, .any, .any, .any, .any, .any, .any, .any, .any, .any, .any, .any, .any, .any, .any, .any, .any, .any, .any, .any, .any], [bts za Na oa about.length (L about), shaT 1 0 first steps, [.row 32 fun i => .w8 (L s i)], [.row c (bytesF (32 * (k + 1)) (L (exL s about (k + 1))))], [.row 32 fun i => .w8 (L (exT s about (k + 1)) i)]]⟩,
    fun x => match x with
    | none => True
    | some (k, c) => 32 * k < n ∧ 32 * (k + 1) ≤ c, fun x => match x with
    | none => 9000
    | some (k, _) => 300 - k, ⟨none, [0, 1, 2], ⟨⟨rfl, rfl, rfl⟩, ?_⟩, trivial⟩, fun x => ?_⟩
  · (repeat first | exact trivial | refine ent1 ?_)
    refine eqC_bts ?_
    (repeat first | exact trivial | refine ent1 ?_)
  rcases x with _ | ⟨k, c⟩
  · intro _
    refine ⟨fun h => ?_, fun h => ?_⟩
    · have hn : 0 < n := by have : (0 : Int) < n := of_decide_eq_true h; omega
      obtain ⟨M, hM⟩ : ∃ M, markL s ([] ++ about ++ [BitVec.ofNat 8 1]) = M := ⟨_, rfl⟩
      have hM2 : exT s about 1 = M := hM
      have hMl : M.length = 32 := by rw [← hM, markL_len]
      refine ⟨some [], [11], [(0, true), (1, true), (2, true), (3, true), (4, true), (5, true), (6, true), (7, true), (8, false), (9, false), (10, false), (11, false)], [12], by kernel_rfl, ?_⟩
      (repeat first | refine And.intro (by omega) ?_ | refine And.intro (by decide) ?_ | (with_reducible refine frc_parts (by first | omega | decide) ?_) | (with_reducible refine frc_bytesL (by first | omega | decide) ?_) | refine And.intro rfl ?_)
      refine call_same (fn_smark false true za false 32 0 Na 1 0 0 oa 0 32 0 ca 1 s [] about [BitVec.ofNat 8 1] 3 3 3 dn f g hd (by omega) (by omega) (fun h => Bool.noConfusion h) (by decide) (by decide) (fun _ => rfl) hNa hca hza (by decide) (by decide) (fun h => Bool.noConfusion h) (by decide) (by decide)) [2, 3, 0, 3, 4, 1] rfl ⟨rfl, rfl, rfl, hs.symm, rfl, rfl, rfl, rfl, trivial⟩ ?_ (fun _ _ => trivial) ?_
      · (repeat first | exact trivial | refine ent1 ?_)
        refine ⟨fun j hj => eqC_win8 (fun i hi => rfl) j, ?_⟩
        (repeat first | exact trivial | refine ent1 ?_)
        refine eqC_bts ?_
        (repeat first | exact trivial | refine ent1 ?_)
        refine ⟨fun j hj => eqC_win0 (fun i hi => ?_) j, ?_⟩
        · obtain rfl : i = 0 := by have : i < 1 := hi; omega
          rfl
        (repeat first | exact trivial | refine ent1 ?_)
        refine ⟨fun j hj => eqC_n3 (by decide) (by exact ⟨rfl, rfl, rfl, rfl, rfl, trivial⟩) (by exact fun _ => ⟨rfl, rfl, rfl, rfl, trivial⟩) (by exact fun _ => ⟨rfl, rfl, rfl, rfl, trivial⟩) j, ?_⟩
        (repeat first | exact trivial | refine ent1 ?_)
      rintro x hs' ⟨rfl, rfl⟩
      rw [cat3, hM]
      (repeat first | refine And.intro (by omega) ?_ | refine And.intro (by decide) ?_ | (with_reducible refine frc_parts (by first | omega | decide) ?_) | (with_reducible refine frc_bytesL (by first | omega | decide) ?_) | refine And.intro rfl ?_)
      refine ⟨fun h => absurd h (by decide), fun _ c' hc' => ?_⟩
      refine ⟨⟨by omega, by omega⟩, some (0, c'), [0, 1, 2, 6, 5], ⟨⟨rfl, rfl, rfl⟩, ?_⟩, ⟨by omega, by omega⟩, by first | omega | (dsimp only; omega)⟩
      (repeat first | exact trivial | refine ent1 ?_)
      refine eqC_bts ?_
      (repeat first | exact trivial | refine ent1 ?_)
      refine ⟨fun j hj => eqC_bytes (fun i hi => ?_) j, rfl, fun j hj => ?_, trivial⟩
      · unfold newF
        rw [if_pos (by simpa [scale] using hi)]
        have hE : exL s about 1 = M := by rw [← hM2]; rfl
        show _ = SC.w8 (L (exL s about 1) i)
        rw [hE]
        rfl
      · show eqC _ _ (SC.w8 (L (exT s about 1) j)) True
        rw [hM2]
        exact ⟨rfl, trivial⟩
    · obtain rfl : n = 0 := by have : ¬ (0 : Int) < n := of_decide_eq_false h; omega
      (repeat first | refine And.intro (by omega) ?_ | refine And.intro (by decide) ?_ | (with_reducible refine frc_parts (by first | omega | decide) ?_) | (with_reducible refine frc_bytesL (by first | omega | decide) ?_) | refine And.intro rfl ?_)
      refine ⟨.tup [.c (.sn true 2 0 0 0 0), .c (.int .i64 0)], [bts za Na oa about.length (L about), shaT dn 0 f g, []], ⟨[0, 1, 2], ⟨rfl, rfl, rfl⟩, ?_⟩, fun h => absurd h (by omega), fun _ _ => ⟨true, 0, dn, f, g, hd, fun _ => rfl, fun h => absurd h (by omega), Nat.le_refl _, rfl, rfl⟩⟩
      (repeat first | exact trivial | refine ent1 ?_)
      refine eqC_bts ?_
      (repeat first | exact trivial | refine ent1 ?_)
  · rintro ⟨hk, hc⟩
    refine ⟨fun h => ?_, fun h => ?_⟩
    · have hn : 32 * (k + 1) < n := by have : ((32 * (k + 1) : Nat) : Int) < n := of_decide_eq_true h; omega
      obtain ⟨T, hT⟩ : ∃ T, exT s about (k + 1) = T := ⟨_, rfl⟩
      have hTl : T.length = 32 := by rw [← hT, exT_len]
      obtain ⟨M, hM⟩ : ∃ M, markL s (T ++ about ++ [BitVec.ofNat 8 (k + 2)]) = M := ⟨_, rfl⟩
      have hM2 : exT s about (k + 2) = M := by rw [← hM, ← hT]; rfl
      rw [hT]
      have hMl : M.length = 32 := by rw [← hM, markL_len]
      refine ⟨some [], [11], [(0, true), (1, true), (2, true), (3, true), (4, true), (5, true), (6, true), (7, true), (8, false), (9, false), (10, false), (11, false)], [12], by kernel_rfl, ?_⟩
      (repeat first | refine And.intro (by omega) ?_ | refine And.intro (by decide) ?_ | (with_reducible refine frc_parts (by first | omega | decide) ?_) | (with_reducible refine frc_bytesL (by first | omega | decide) ?_) | refine And.intro rfl ?_)
      refine call_same (fn_smark false false za false 32 32 Na 1 0 0 oa 0 32 32 ca 1 s T about [BitVec.ofNat 8 (k + 2)] 3 3 3 1 first steps (.inr ⟨rfl, rfl, rfl⟩) (by omega) (by omega) (fun h => Bool.noConfusion h) (by omega) (by omega) (fun h => Bool.noConfusion h) hNa hca hza (Nat.le_refl 1) (Nat.le_refl 1) (fun h => Bool.noConfusion h) (by decide) (by decide)) [2, 4, 0, 5, 6, 1] rfl ⟨rfl, rfl, rfl, hs.symm, rfl, rfl, rfl, rfl, trivial⟩ ?_ (fun _ _ => trivial) ?_
      · (repeat first | exact trivial | refine ent1 ?_)
        refine ⟨fun j hj => eqC_win8 (fun i hi => rfl) j, ?_⟩
        (repeat first | exact trivial | refine ent1 ?_)
        refine ⟨fun j hj => eqC_win8 (fun i hi => rfl) j, ?_⟩
        (repeat first | exact trivial | refine ent1 ?_)
        refine eqC_bts ?_
        (repeat first | exact trivial | refine ent1 ?_)
        refine ⟨fun j hj => eqC_win0 (fun i hi => ?_) j, ?_⟩
        · obtain rfl : i = 0 := by have : i < 1 := hi; omega
          exact congrArg SC.w8 (BitVec.ofInt_natCast 8 (k + 2))
        (repeat first | exact trivial | refine ent1 ?_)
        refine ⟨fun j hj => eqC_n3 (by decide) (by exact ⟨rfl, rfl, hTl.symm, rfl, trivial⟩) (by exact fun _ => ⟨rfl, rfl, rfl, rfl, trivial⟩) (by exact fun _ => ⟨rfl, rfl, rfl, rfl, trivial⟩) j, ?_⟩
        (repeat first | exact trivial | refine ent1 ?_)
      rintro x hs' ⟨rfl, rfl⟩
      rw [cat3, hM]
      (repeat first | refine And.intro (by omega) ?_ | refine And.intro (by decide) ?_ | (with_reducible refine frc_parts (by first | omega | decide) ?_) | (with_reducible refine frc_bytesL (by first | omega | decide) ?_) | refine And.intro rfl ?_)
      refine ⟨⟨by omega, by simp only [scale]; omega, by show (32 * (k + 1) + 32) * 1 ≤ 140737488355328; omega⟩, fun c' hc' => ?_⟩
      refine ⟨⟨by omega, by omega⟩, some (k + 1, c'), [0, 1, 2, 8, 7], ⟨⟨rfl, rfl, rfl⟩, ?_⟩, ⟨by omega, by omega⟩, by first | omega | (dsimp only; omega)⟩
      (repeat first | exact trivial | refine ent1 ?_)
      refine eqC_bts ?_
      (repeat first | exact trivial | refine ent1 ?_)
      refine ⟨fun j hj => eqC_bytes (fun i hi => ?_) j, rfl, fun j hj => ?_, trivial⟩
      · unfold appF
        have hE : exL s about (k + 2) = exL s about (k + 1) ++ M := by rw [← hM2]; rfl
        show _ = SC.w8 (L (exL s about (k + 2)) i)
        rw [hE, L_app, exL_len]
        by_cases h2 : i < 32 * (k + 1)
        · rw [if_pos (by simpa [scale] using h2), if_pos h2]
          exact bytesF_lt h2
        · rw [if_neg (by simpa [scale] using h2), if_pos (by simp only [scale]; omega), if_neg h2]
          rfl
      · show eqC _ _ (SC.w8 (L (exT s about (k + 2)) j)) True
        rw [hM2]
        exact ⟨rfl, trivial⟩
    · have hn : n ≤ 32 * (k + 1) := by have : ¬ ((32 * (k + 1) : Nat) : Int) < n := of_decide_eq_false h; omega
      (repeat first | refine And.intro (by omega) ?_ | refine And.intro (by decide) ?_ | (with_reducible refine frc_parts (by first | omega | decide) ?_) | (with_reducible refine frc_bytesL (by first | omega | decide) ?_) | refine And.intro rfl ?_)
      refine ⟨.tup [.c (.sn false 2 0 0 n n), .c (.int .i64 0)], [bts za Na oa about.length (L about), shaT 1 0 first steps, bts false c 0 n (exF s about)], ⟨[0, 1, 3], ⟨rfl, rfl, rfl⟩, ?_⟩, fun h => absurd h (by omega), fun _ _ => ⟨false, c, 1, first, steps, .inr ⟨rfl, rfl, rfl⟩, fun h => Bool.noConfusion h, fun _ => rfl, by omega, rfl, rfl⟩⟩
      refine ⟨rfl, ?_, rfl, rfl, rfl, ?_⟩
      · split <;> rfl
      refine eqC_bts ?_
      (repeat first | exact trivial | refine ent1 ?_)
      exact ⟨fun j hj => eqC_win0 (fun i hi => by rw [bytesF_lt (by omega), exL_at _ _ _ _ (by omega)]) j, trivial⟩
end Sx
end Go.Proofs.Ytkjdkeolkigibaa
end

section
/-
  Secrets out of secrets: the document's Expand. No condition.
-/
namespace Go.Proofs.Ytkjdkeolkigibaa
set_option linter.unusedVariables false
namespace Sx
open Sha

end Sx
end Go.Proofs.Ytkjdkeolkigibaa
end

section
/-
  Secrets out of secrets: labels. No condition.
-/
namespace Go.Proofs.Ytkjdkeolkigibaa
set_option linter.unusedVariables false
namespace Sha
def tls : Bs := [116#8, 108#8, 115#8, 49#8, 51#8, 32#8]
/-- What a label is made of. -/
def labT (lab : List UInt8) (ctx : Bs) (n : Nat) : Bs := [BitVec.ofNat 8 (n / 256), BitVec.ofNat 8 n, BitVec.ofNat 8 (6 + lab.length)] ++ tls ++ BS lab ++ [BitVec.ofNat 8 ctx.length] ++ ctx
theorem labT_len (lab : List UInt8) (ctx : Bs) (n : Nat) : (labT lab ctx n).length = 3 + 6 + lab.length + 1 + ctx.length := by simp [labT, tls]; omega
end Sha
namespace Sx
open Sha

theorem tls_row (i : Nat) (hi : i < 6) : SC.w8 (List.getD [116, 108, 115, 49, 51, 32] i (0 : UInt8)).toBitVec = .w8 (L tls i) := by
  have : i = 0 ∨ i = 1 ∨ i = 2 ∨ i = 3 ∨ i = 4 ∨ i = 5 := by omega
  rcases this with rfl | rfl | rfl | rfl | rfl | rfl <;> rfl
theorem three {x y z x' y' z' : BitVec 8} (hx : x = x') (hy : y = y') (hz : z = z') (i : Nat) (hi : i < 3) : nthC [.w8 x, .w8 y, .w8 z] i = .w8 (L [x', y', z'] i) := by
  subst hx; subst hy; subst hz
  have : i = 0 ∨ i = 1 ∨ i = 2 := by omega
  rcases this with rfl | rfl | rfl <;> rfl
set_option maxRecDepth 20000 in
set_option maxHeartbeats 2000000 in
theorem fn_klabel (zc : Bool) (Nc oc cc : Nat) (s ctx : Bs) (lab : List UInt8) (many : Int) (dn : BitVec 32) (f g : Nat → BitVec 32) (hd : dn = 0#32 ∨ dn = 1#32 ∧ f = first ∧ g = steps)
    (hs : s.length = 32) (hNc : oc + ctx.length ≤ Nc) (hcc : ctx.length ≤ cc) (hzc : zc = true → ctx = []) :
    FnR Try.prog tds 90 1 [bts zc Nc oc ctx.length (L ctx), shaT dn 0 f g] [.c (.p 1 0 0), .agg [.row 32 fun i => .w8 (L s i)], .c (.str lab), .c (.sn zc 0 0 oc ctx.length cc), .c (.int .i64 many)] (fun _ => True)
      (fun x hs => ((249 < lab.length ∨ 255 < ctx.length) → x = .tup [.c (.slc none 0 0), .c (.int .i64 6)] ∧ hs = [bts zc Nc oc ctx.length (L ctx), shaT dn 0 f g]) ∧
        (lab.length ≤ 249 → ctx.length ≤ 255 → (many < 0 ∨ 8160 < many) → x = .tup [.c (.slc none 0 0), .c (.int .i64 2)] ∧ hs = [bts zc Nc oc ctx.length (L ctx), shaT dn 0 f g]) ∧
        (lab.length ≤ 249 → ctx.length ≤ 255 → 0 ≤ many → many ≤ 8160 → ∃ (z : Bool) (N : Nat) (dn' : BitVec 32) (f' g' : Nat → BitVec 32), (dn' = 0#32 ∨ dn' = 1#32 ∧ f' = first ∧ g' = steps) ∧ (z = true → many.toNat = 0) ∧ (0 < many → z = false) ∧ many.toNat ≤ N ∧
          x = .tup [.c (.sn z 2 0 0 many.toNat many.toNat), .c (.int .i64 0)] ∧ hs = [bts zc Nc oc ctx.length (L ctx), shaT dn' 0 f' g', bts z N 0 many.toNat (exF s (labT lab ctx many.toNat))])) := by
  refine fn_of_body tds_ok follows_ Try.func90 rfl (t := [.a (.c (.p 1 0 0)), .a (.agg [.row 32 fun i => .w8 (L s i)]), .a (.c (.str (lab))), .a (.c (.sn zc 0 0 oc ctx.length cc)), .a (.c (.int .i64 (many))), .any, .any, .any, .any, .any, .any, .any, .any, .any, .any, .any, .any, .any, .any, .any, .any, .any, .any, .any, .any, .any, .any, .any, .any, .any, .any, .any, .any, .any, .any, .any, .any, .any, .any, .any, .any, .any, .any, .any, .any, .any, .any, .any, .any, .any, .any, .any, .any, .any, .any, .any, .any, .any, .any, .any]) rfl (fun w r0 hr _ => ?_)
  obtain ⟨x0, x1, rfl⟩ := len2' hr
  (repeat first | refine And.intro (by omega) ?_ | refine And.intro (by decide) ?_ | (with_reducible refine frc_parts (by first | omega | decide) ?_) | (with_reducible refine frc_bytesL (by first | omega | decide) ?_) | refine And.intro rfl ?_)
  refine ⟨fun h => Bool.noConfusion h, fun _ => ?_⟩
  by_cases h0 : 249 < lab.length
  · have e0 : decide ((249 : Int) < (lab.length : Int)) = true := decide_eq_true (by omega)
    (repeat first | refine ⟨fun _ => ?_, fun h => absurd h (by rw [e0]; decide)⟩ | refine ⟨fun h => absurd h (by rw [e0]; decide), fun _ => ?_⟩ | refine ⟨fun _ => ?_, fun h => Bool.noConfusion h⟩ | refine ⟨fun h => Bool.noConfusion h, fun _ => ?_⟩)
    refine ⟨.tup [.c (.slc none 0 0), .c (.int .i64 6)], [bts zc Nc oc ctx.length (L ctx), shaT dn 0 f g], ⟨[0, 1], ⟨rfl, rfl, rfl⟩, ?_⟩, fun _ => ⟨rfl, rfl⟩, fun h => absurd h (by omega), fun h => absurd h (by omega)⟩
    (repeat first | exact trivial | refine ent1 ?_)
    refine eqC_bts ?_
    (repeat first | exact trivial | refine ent1 ?_)
  have e0 : decide ((249 : Int) < (lab.length : Int)) = false := decide_eq_false (by omega)
  by_cases h1 : 255 < ctx.length
  · have e1 : decide ((255 : Int) < (ctx.length : Int)) = true := decide_eq_true (by omega)
    (repeat first | refine ⟨fun _ => ?_, fun h => absurd h (by rw [e0]; decide)⟩ | refine ⟨fun h => absurd h (by rw [e0]; decide), fun _ => ?_⟩ | refine ⟨fun _ => ?_, fun h => absurd h (by rw [e1]; decide)⟩ | refine ⟨fun h => absurd h (by rw [e1]; decide), fun _ => ?_⟩ | refine ⟨fun _ => ?_, fun h => Bool.noConfusion h⟩ | refine ⟨fun h => Bool.noConfusion h, fun _ => ?_⟩)
    refine ⟨.tup [.c (.slc none 0 0), .c (.int .i64 6)], [bts zc Nc oc ctx.length (L ctx), shaT dn 0 f g], ⟨[0, 1], ⟨rfl, rfl, rfl⟩, ?_⟩, fun _ => ⟨rfl, rfl⟩, fun _ h => absurd h (by omega), fun _ h => absurd h (by omega)⟩
    (repeat first | exact trivial | refine ent1 ?_)
    refine eqC_bts ?_
    (repeat first | exact trivial | refine ent1 ?_)
  have e1 : decide ((255 : Int) < (ctx.length : Int)) = false := decide_eq_false (by omega)
  (repeat first | refine ⟨fun _ => ?_, fun h => absurd h (by rw [e0]; decide)⟩ | refine ⟨fun h => absurd h (by rw [e0]; decide), fun _ => ?_⟩ | refine ⟨fun _ => ?_, fun h => absurd h (by rw [e1]; decide)⟩ | refine ⟨fun h => absurd h (by rw [e1]; decide), fun _ => ?_⟩ | refine ⟨fun _ => ?_, fun h => Bool.noConfusion h⟩ | refine ⟨fun h => Bool.noConfusion h, fun _ => ?_⟩)
  by_cases h2 : many < 0
  · have e2 : decide (many < 0) = true := decide_eq_true h2
    (repeat first | refine ⟨fun _ => ?_, fun h => absurd h (by rw [e2]; decide)⟩ | refine ⟨fun h => absurd h (by rw [e2]; decide), fun _ => ?_⟩ | refine ⟨fun _ => ?_, fun h => Bool.noConfusion h⟩ | refine ⟨fun h => Bool.noConfusion h, fun _ => ?_⟩)
    refine ⟨.tup [.c (.slc none 0 0), .c (.int .i64 2)], [bts zc Nc oc ctx.length (L ctx), shaT dn 0 f g], ⟨[0, 1], ⟨rfl, rfl, rfl⟩, ?_⟩, fun h => absurd h (by omega), fun _ _ _ => ⟨rfl, rfl⟩, fun _ _ h => absurd h (by omega)⟩
    (repeat first | exact trivial | refine ent1 ?_)
    refine eqC_bts ?_
    (repeat first | exact trivial | refine ent1 ?_)
  have e2 : decide (many < 0) = false := decide_eq_false h2
  by_cases h3 : 65535 < many
  · have e3 : decide (65535 < many) = true := decide_eq_true h3
    (repeat first | refine ⟨fun _ => ?_, fun h => absurd h (by rw [e2]; decide)⟩ | refine ⟨fun h => absurd h (by rw [e2]; decide), fun _ => ?_⟩ | refine ⟨fun _ => ?_, fun h => absurd h (by rw [e3]; decide)⟩ | refine ⟨fun h => absurd h (by rw [e3]; decide), fun _ => ?_⟩ | refine ⟨fun _ => ?_, fun h => Bool.noConfusion h⟩ | refine ⟨fun h => Bool.noConfusion h, fun _ => ?_⟩)
    refine ⟨.tup [.c (.slc none 0 0), .c (.int .i64 2)], [bts zc Nc oc ctx.length (L ctx), shaT dn 0 f g], ⟨[0, 1], ⟨rfl, rfl, rfl⟩, ?_⟩, fun h => absurd h (by omega), fun _ _ _ => ⟨rfl, rfl⟩, fun _ _ _ h => absurd h (by omega)⟩
    (repeat first | exact trivial | refine ent1 ?_)
    refine eqC_bts ?_
    (repeat first | exact trivial | refine ent1 ?_)
  have e3 : decide (65535 < many) = false := decide_eq_false h3
  (repeat first | refine ⟨fun _ => ?_, fun h => absurd h (by rw [e2]; decide)⟩ | refine ⟨fun h => absurd h (by rw [e2]; decide), fun _ => ?_⟩ | refine ⟨fun _ => ?_, fun h => absurd h (by rw [e3]; decide)⟩ | refine ⟨fun h => absurd h (by rw [e3]; decide), fun _ => ?_⟩ | refine ⟨fun _ => ?_, fun h => Bool.noConfusion h⟩ | refine ⟨fun h => Bool.noConfusion h, fun _ => ?_⟩)
  obtain ⟨n, rfl⟩ : ∃ n : Nat, many = n := ⟨many.toNat, by omega⟩
  (repeat first | refine And.intro (by omega) ?_ | refine And.intro (by decide) ?_ | (with_reducible refine frc_parts (by first | omega | decide) ?_) | (with_reducible refine frc_bytesL (by first | omega | decide) ?_) | refine And.intro rfl ?_)
  refine fun c1 hc1 => ?_
  have r1 := app_row (l := [BitVec.ofNat 8 (n / 256), BitVec.ofNat 8 n, BitVec.ofNat 8 (6 + lab.length)]) (m := tls) (n := 3) (k := 6) rfl rfl (f := nthC [.w8 (BitVec.ofInt 8 ((n : Int) / 2 ^ 8)), .w8 (BitVec.ofInt 8 (n : Int)), .w8 (BitVec.ofInt 8 (6 + (lab.length : Int)))]) (fun i hi => three (by rw [show (n : Int) / 2 ^ 8 = ((n / 256 : Nat) : Int) by omega]; exact BitVec.ofInt_natCast 8 _) (BitVec.ofInt_natCast 8 n) (by rw [show 6 + (lab.length : Int) = ((6 + lab.length : Nat) : Int) by omega]; exact BitVec.ofInt_natCast 8 _) i hi) (g := fun q => .w8 (List.getD [116, 108, 115, 49, 51, 32] q (0 : UInt8)).toBitVec) (fun i hi => tls_row i hi)
  refine And.intro ⟨by omega, by simp only [scale]; omega, by show (3 + 6 + lab.length) * 1 ≤ 140737488355328; omega⟩ fun c2 hc2 => ?_
  have r2 := app_row (m := BS lab) (n := 3 + 6) (k := lab.length) rfl (BS_len lab) r1 (g := fun q => .w8 (lab.getD q 0).toBitVec) (fun i hi => BS_row lab i hi)
  (repeat first | refine And.intro (by omega) ?_ | refine And.intro (by decide) ?_ | (with_reducible refine frc_parts (by first | omega | decide) ?_) | (with_reducible refine frc_bytesL (by first | omega | decide) ?_) | refine And.intro rfl ?_)
  refine And.intro ⟨by omega, by simp only [scale]; omega, by show (3 + 6 + lab.length + 1) * 1 ≤ 140737488355328; omega⟩ fun c3 hc3 => ?_
  have r3 := app_row (m := [BitVec.ofNat 8 ctx.length]) (n := 3 + 6 + lab.length) (k := 1) (by simp [tls]; try omega) rfl r2 (one_row (x := BitVec.ofInt 8 (ctx.length : Int)) (BitVec.ofInt_natCast 8 ctx.length))
  refine sn_bts (N := Nc) (b := L ctx) ?_ hNc (fun h => by rw [hzc h]; rfl) (fun gx hg => ?_)
  · rfl
  refine And.intro ⟨by omega, by simp only [scale]; omega, by show (3 + 6 + lab.length + 1 + ctx.length) * 1 ≤ 140737488355328; omega⟩ fun c4 hc4 => ?_
  have r4 := app_row (n := 3 + 6 + lab.length + 1) (by simp [tls]; try omega) rfl r3 hg
  have hTl := labT_len lab ctx n
  obtain ⟨T, hT0⟩ : ∃ T, labT lab ctx n = T := ⟨_, rfl⟩
  rw [hT0] at hTl
  have hT : [BitVec.ofNat 8 (n / 256), BitVec.ofNat 8 n, BitVec.ofNat 8 (6 + lab.length)] ++ tls ++ BS lab ++ [BitVec.ofNat 8 ctx.length] ++ ctx = T := hT0
  rw [hT] at r4
  have hc4' : T.length ≤ c4 := by rw [hTl]; exact hc4
  (repeat first | refine And.intro (by omega) ?_ | refine And.intro (by decide) ?_ | (with_reducible refine frc_parts (by first | omega | decide) ?_) | (with_reducible refine frc_bytesL (by first | omega | decide) ?_) | refine And.intro rfl ?_)
  refine call_same (fn_kexpand false c4 0 c4 s T (n : Int) dn f g hd hs (by omega) (by omega) (fun h => Bool.noConfusion h)) [8, 1] rfl ⟨rfl, rfl, rfl, fun j hj => ⟨rfl, trivial⟩, rfl, rfl, hTl.symm, rfl, rfl, trivial⟩ ?_ (fun _ _ => trivial) ?_
  · refine ⟨rfl, fun j hj => eqC_win0 (fun i hi => r4 i (by omega)) j, ?_⟩
    (repeat first | exact trivial | refine ent1 ?_)
  rintro x hs' ⟨hbad, hgood⟩
  by_cases h4 : 8160 < (n : Int)
  · obtain ⟨rfl, rfl⟩ := hbad (.inr h4)
    (repeat first | refine And.intro (by omega) ?_ | refine And.intro (by decide) ?_ | (with_reducible refine frc_parts (by first | omega | decide) ?_) | (with_reducible refine frc_bytesL (by first | omega | decide) ?_) | refine And.intro rfl ?_)
    refine ⟨.tup [.c (.slc none 0 0), .c (.int .i64 2)], [bts zc Nc oc ctx.length (L ctx), shaT dn 0 f g], ⟨[0, 1], ⟨rfl, rfl, rfl⟩, ?_⟩, fun h => absurd h (by omega), fun _ _ _ => ⟨rfl, rfl⟩, fun _ _ _ h => absurd h (by omega)⟩
    (repeat first | exact trivial | refine ent1 ?_)
    refine eqC_bts ?_
    (repeat first | exact trivial | refine ent1 ?_)
  obtain ⟨z, N, dn', f', g', hd', hz, hz2, hN, rfl, rfl⟩ := hgood (by omega) (by omega)
  (repeat first | refine And.intro (by omega) ?_ | refine And.intro (by decide) ?_ | (with_reducible refine frc_parts (by first | omega | decide) ?_) | (with_reducible refine frc_bytesL (by first | omega | decide) ?_) | refine And.intro rfl ?_)
  refine ⟨.tup [.c (.sn z 2 0 0 n n), .c (.int .i64 0)], [bts zc Nc oc ctx.length (L ctx), shaT dn' 0 f' g', bts z N 0 n (exF s T)], ⟨[0, 1, 9], ⟨rfl, rfl, rfl⟩, ?_⟩, fun h => absurd h (by omega), fun _ _ h => absurd h (by omega), fun _ _ _ _ => ⟨z, N, dn', f', g', hd', hz, hz2, hN, rfl, by subst hT0; rfl⟩⟩
  (repeat first | exact trivial | refine ent1 ?_)
  refine eqC_bts ?_
  (repeat first | exact trivial | refine ent1 ?_)
  exact eqC_btsM trivial
end Sx
end Go.Proofs.Ytkjdkeolkigibaa
end

section
/-
  Secrets out of secrets: Extract, Derive; the law's fixed fact. No condition.
-/
namespace Go.Proofs.Ytkjdkeolkigibaa
set_option linter.unusedVariables false
namespace Sx
open Sha

theorem fn_knew : Fn Try.prog tds 41 [] [] (fun _ => True) (fun x hs => x = .a (.c (.p 0 0 0)) ∧ hs = [shaT 0 0 (fun _ => 0#32) (fun _ => 0#32)]) := by
  refine fn_of_body tds_ok follows_ Try.func41 rfl (t := anys 2) rfl (fun w r0 hr _ => ?_)
  obtain rfl : r0 = [] := List.eq_nil_of_length_eq_zero hr
  refine ⟨.a (.c (.p 0 0 0)), [shaT 0 0 (fun _ => 0#32) (fun _ => 0#32)], ⟨[0], ⟨rfl, rfl, rfl⟩, ?_⟩, rfl, rfl⟩
  (repeat first | exact trivial | refine ⟨rfl, ?_⟩ | refine ⟨fun _ _ => ⟨rfl, trivial⟩, ?_⟩ | refine ⟨by omega, ?_⟩)
set_option maxRecDepth 20000 in
theorem fn_extract (zs zk : Bool) (Ns Nk os ok cs ck : Nat) (salt known : Bs) (dn : BitVec 32) (f g : Nat → BitVec 32) (hd : dn = 0#32 ∨ dn = 1#32 ∧ f = first ∧ g = steps)
    (hNs : os + salt.length ≤ Ns) (hcs : salt.length ≤ cs) (hzs : zs = true → salt = []) (hNk : ok + known.length ≤ Nk) (hck : known.length ≤ ck) (hzk : zk = true → known = []) :
    FnR Try.prog tds 72 2 [bts zs Ns os salt.length (L salt), bts zk Nk ok known.length (L known), shaT dn 0 f g] [.c (.p 2 0 0), .c (.sn zs 0 0 os salt.length cs), .c (.sn zk 1 0 ok known.length ck)] (fun _ => True)
      (fun x hs => x = .a (.agg [.row 32 fun i => .w8 (L (markL salt known) i)]) ∧ hs = [bts zs Ns os salt.length (L salt), bts zk Nk ok known.length (L known), shaT 1 0 first steps]) := by
  refine fn_of_body tds_ok follows_ Try.func72 rfl (t := [.a (.c (.p 2 0 0)), .a (.c (.sn zs 0 0 os salt.length cs)), .a (.c (.sn zk 1 0 ok known.length ck)), .any, .any, .any, .any, .any, .any, .any, .any, .any, .any, .any, .any, .any, .any]) rfl (fun w r0 hr _ => ?_)
  obtain ⟨x0, x1, x2, rfl⟩ := len3' hr
  refine ⟨fun h => Bool.noConfusion h, fun _ => ?_⟩
  (repeat first | refine And.intro (by omega) ?_ | refine And.intro (by decide) ?_ | (with_reducible refine frc_parts (by first | omega | decide) ?_) | (with_reducible refine frc_bytesL (by first | omega | decide) ?_) | refine And.intro rfl ?_)
  refine call_same (fn_smark zs zk true true Ns Nk 0 0 os ok 0 0 cs ck 0 0 salt known [] [] 1 1 1 dn f g hd hNs hcs hzs hNk hck hzk (by decide) (by decide) (fun _ => rfl) (by decide) (by decide) (fun _ => rfl) (by decide) (by decide)) [0, 1, 4, 4, 4, 2] rfl (by (repeat first | exact trivial | refine ent1 ?_)) ?_ (fun _ _ => trivial) ?_
  · refine eqC_bts (eqC_bts ?_)
    (repeat first | exact trivial | refine ent1 ?_)
    refine ⟨fun j hj => eqC_parts (fun i hi => ?_) j, ?_⟩
    · obtain rfl : i = 0 := by omega
      exact ⟨rfl, rfl, rfl, rfl, trivial⟩
    · (repeat first | exact trivial | refine ent1 ?_)
  rintro x hs ⟨rfl, rfl⟩
  rw [cat1]
  (repeat first | refine And.intro (by omega) ?_ | refine And.intro (by decide) ?_ | (with_reducible refine frc_parts (by first | omega | decide) ?_) | (with_reducible refine frc_bytesL (by first | omega | decide) ?_) | refine And.intro rfl ?_)
  refine ⟨.a (.agg [.row 32 fun i => .w8 (L (markL salt known) i)]), [bts zs Ns os salt.length (L salt), bts zk Nk ok known.length (L known), shaT 1 0 first steps], ⟨[0, 1, 2], ⟨rfl, rfl, rfl⟩, ?_⟩, rfl, rfl⟩
  (repeat first | exact trivial | refine ent1 ?_)
  refine eqC_bts (eqC_bts ?_)
  (repeat first | exact trivial | refine ent1 ?_)
set_option maxRecDepth 20000 in
theorem fn_kderive (zd : Bool) (Nd od cd : Nat) (s said : Bs) (lab : List UInt8) (dn : BitVec 32) (f g : Nat → BitVec 32) (hd : dn = 0#32 ∨ dn = 1#32 ∧ f = first ∧ g = steps)
    (hs : s.length = 32) (hl : lab.length ≤ 249) (hNd : od + said.length ≤ Nd) (hcd : said.length ≤ cd) (hzd : zd = true → said = []) :
    FnR Try.prog tds 76 1 [bts zd Nd od said.length (L said), shaT dn 0 f g] [.c (.p 1 0 0), .agg [.row 32 fun i => .w8 (L s i)], .c (.str lab), .c (.sn zd 0 0 od said.length cd)] (fun _ => True)
      (fun x hs => x = .a (.agg [.row 32 fun i => .w8 (exF s (labT lab (sumL said) 32) i)]) ∧ ∃ (dn' : BitVec 32) (f' g' : Nat → BitVec 32), (dn' = 0#32 ∨ dn' = 1#32 ∧ f' = first ∧ g' = steps) ∧ hs = [bts zd Nd od said.length (L said), shaT dn' 0 f' g']) := by
  refine fn_of_body tds_ok follows_ Try.func76 rfl (t := [.a (.c (.p 1 0 0)), .a (.agg [.row 32 fun i => .w8 (L s i)]), .a (.c (.str (lab))), .a (.c (.sn zd 0 0 od said.length cd)), .any, .any, .any, .any, .any, .any, .any, .any, .any, .any, .any, .any, .any, .any, .any, .any, .any, .any, .any, .any, .any, .any, .any, .any, .any, .any, .any, .any, .any, .any]) rfl (fun w r0 hr _ => ?_)
  obtain ⟨x0, x1, rfl⟩ := len2' hr
  (repeat first | refine And.intro (by omega) ?_ | refine And.intro (by decide) ?_ | (with_reducible refine frc_parts (by first | omega | decide) ?_) | (with_reducible refine frc_bytesL (by first | omega | decide) ?_) | refine And.intro rfl ?_)
  refine ⟨fun h => Bool.noConfusion h, fun _ => ?_⟩
  (repeat first | refine And.intro (by omega) ?_ | refine And.intro (by decide) ?_ | (with_reducible refine frc_parts (by first | omega | decide) ?_) | (with_reducible refine frc_bytesL (by first | omega | decide) ?_) | refine And.intro rfl ?_)
  refine call_same (fn_ssum3 zd true true Nd 0 0 od 0 0 cd 0 0 said [] [] 1 1 1 dn f g hd hNd (by decide) (by decide) hcd (by decide) (by decide) hzd (fun _ => rfl) (fun _ => rfl) (by decide) (by decide)) [0, 5, 5, 5, 1] rfl (by (repeat first | exact trivial | refine ent1 ?_)) ?_ (fun _ _ => trivial) ?_
  · refine eqC_bts ?_
    (repeat first | exact trivial | refine ent1 ?_)
    refine ⟨fun j hj => eqC_parts (fun i hi => ?_) j, ?_⟩
    · obtain rfl : i = 0 := by omega
      exact ⟨rfl, rfl, rfl, rfl, trivial⟩
    · (repeat first | exact trivial | refine ent1 ?_)
  rintro x hs' ⟨rfl, rfl⟩
  rw [cat1]
  obtain ⟨S, hS⟩ : ∃ S, sumL said = S := ⟨_, rfl⟩
  have hSl : S.length = 32 := by rw [← hS, sumL_len]
  rw [hS]
  (repeat first | refine And.intro (by omega) ?_ | refine And.intro (by decide) ?_ | (with_reducible refine frc_parts (by first | omega | decide) ?_) | (with_reducible refine frc_bytesL (by first | omega | decide) ?_) | refine And.intro rfl ?_)
  refine ⟨some [2], [], [(0, true), (1, true), (2, true), (3, true), (4, false), (5, true), (6, true), (7, true), (8, true), (9, true)], [], by kernel_rfl, ?_⟩
  (repeat first | refine And.intro (by omega) ?_ | refine And.intro (by decide) ?_ | (with_reducible refine frc_parts (by first | omega | decide) ?_) | (with_reducible refine frc_bytesL (by first | omega | decide) ?_) | refine And.intro rfl ?_)
  refine call_same (fn_klabel false 32 0 32 s S lab 32 1 first steps (.inr ⟨rfl, rfl, rfl⟩) hs (by omega) (by omega) (fun h => Bool.noConfusion h)) [6, 1] rfl ⟨rfl, rfl, rfl, fun j hj => ⟨rfl, trivial⟩, rfl, rfl, rfl, hSl.symm, rfl, rfl, trivial⟩ ?_ (fun _ _ => trivial) ?_
  · refine ⟨rfl, fun j hj => eqC_win0 (fun i hi => rfl) j, ?_⟩
    (repeat first | exact trivial | refine ent1 ?_)
  rintro x hs' ⟨_, _, hgood⟩
  obtain ⟨z, N, dn', f', g', hd', hz, hz2, hN, rfl, rfl⟩ := hgood hl (by omega) (by decide) (by decide)
  obtain rfl := hz2 (by decide)
  have hN : 32 ≤ N := hN
  (repeat first | refine And.intro (by omega) ?_ | refine And.intro (by decide) ?_ | (with_reducible refine frc_parts (by first | omega | decide) ?_) | (with_reducible refine frc_bytesL (by first | omega | decide) ?_) | refine And.intro rfl ?_)
  refine sn_btsM (g := bk 7 [6, 1]) (N := N) (b := exF s (labT lab S 32)) ?_ hN (fun h => Bool.noConfusion h) (fun gx hg => ?_)
  · rfl
  (repeat first | refine And.intro (by omega) ?_ | refine And.intro (by decide) ?_ | (with_reducible refine frc_parts (by first | omega | decide) ?_) | (with_reducible refine frc_bytesL (by first | omega | decide) ?_) | refine And.intro rfl ?_)
  refine ⟨.a (.agg [.row 32 fun i => .w8 (exF s (labT lab S 32) i)]), [bts zd Nd od said.length (L said), shaT dn' 0 f' g'], ⟨[0, 1], ⟨rfl, rfl, rfl⟩, ?_⟩, rfl, dn', f', g', hd', rfl⟩
  (repeat first | exact trivial | refine ent1 ?_)
  refine ⟨fun j hj => eqC_w8 ?_, ?_⟩
  · show updN (fun _ => SC.w8 0) 0 32 gx j = _
    unfold updN
    rw [if_pos ⟨by omega, by omega⟩, Nat.sub_zero]
    exact hg j hj
  · (repeat first | exact trivial | refine ent1 ?_)
    refine eqC_bts ?_
    (repeat first | exact trivial | refine ent1 ?_)
end Sx
end Go.Proofs.Ytkjdkeolkigibaa
end

section
/-
  SHA-256: known sums and marks; a nil one. No condition.
-/
namespace Go.Proofs.Ytkjdkeolkigibaa
set_option linter.unusedVariables false
namespace Sx
open Sha

end Sx
end Go.Proofs.Ytkjdkeolkigibaa
end

section
/-
  Secrets out of secrets: nil ones. No condition.
-/
namespace Go.Proofs.Ytkjdkeolkigibaa
set_option linter.unusedVariables false
namespace Sx
open Sha

theorem fn_tables (dn : BitVec 32) (f g : Nat → BitVec 32) : Fn Try.prog tds 87 [shaT dn 0 f g] [.c (.p 0 0 0)] (fun _ => True) (fun x hs => x = .a (.c (.p 0 0 0)) ∧ hs = [shaT dn 0 f g]) := by
  refine fn_of_body tds_ok follows_ Try.func87 rfl (t := .a (.c (.p 0 0 0)) :: anys (Try.f87.ntmps - 1)) rfl (fun w r0 hr _ => ?_)
  obtain ⟨x0, rfl⟩ := List.length_eq_one_iff.1 hr
  refine ⟨fun h => Bool.noConfusion h, fun _ => ?_⟩
  refine ⟨.a (.c (.p 0 0 0)), [shaT dn 0 f g], ⟨[0], ⟨rfl, rfl, rfl⟩, ?_⟩, rfl, rfl⟩
  (repeat first | exact trivial | refine ent1 ?_)
end Sx
end Go.Proofs.Ytkjdkeolkigibaa
end

section
/-
  A message's mark. No condition.
-/
namespace Go.Proofs.Ytkjdkeolkigibaa
set_option linter.unusedVariables false
namespace Vi
open Sha Sx
/-- A secret of a secret. -/
def dervL (s : Bs) (lab : List UInt8) (said : Bs) : Bs := tab 32 (exF s (labT lab (sumL said) 32))
theorem derv_len (s : Bs) (lab : List UInt8) (said : Bs) : (dervL s lab said).length = 32 := tab_len _ _
def labM (k : BitVec 8) : List UInt8 := if k = 1#8 then [114, 101, 115, 32, 98, 105, 110, 100, 101, 114] else if k = 2#8 then [115, 32, 118, 101, 114, 105, 102, 121] else [99, 32, 102, 105, 110, 105, 115, 104, 101, 100]
def hmarkL (early : Bs) (k : BitVec 8) (said ahead : Bs) : Bs := markL (dervL early (labM k) []) (said ++ ahead)
theorem hmark_len (early : Bs) (k : BitVec 8) (said ahead : Bs) : (hmarkL early k said ahead).length = 32 := markL_len _ _
end Vi
namespace Sx
open Sha Vi

/-- A schedule: its tables, its first secret, what was said. -/
abbrev scC (t : Nat) (early : Bs) (i : Nat) (S : Sl) : List Seg := [.one (.p t 0 0), ar early, .one (svC i S)]
/-- The tables are there, or not yet. -/
def TabOk (dn : BitVec 32) (f g : Nat → BitVec 32) : Prop := dn = 0#32 ∨ dn = 1#32 ∧ f = first ∧ g = steps
theorem derv_row {s said : Bs} {lab : List UInt8} (i : Nat) (hi : i < 32) : exF s (labT lab (sumL said) 32) i = L (dervL s lab said) i := (L_tab hi).symm
set_option maxRecDepth 20000 in
set_option maxHeartbeats 8000000 in
theorem fn_hmark (S A : Sl) (hS : S.Ok) (hA : A.Ok) (early : Bs) (he : early.length = 32) (k : BitVec 8) (dn : BitVec 32) (f g : Nat → BitVec 32) (hd : TabOk dn f g) :
    FnR Try.prog tds 74 3 [svB S, svB A, scC 3 early 0 S, shaT dn 0 f g] [.c (.p 2 0 0), .c (.w8 k), .c (svC 1 A)] (fun _ => True)
    (fun y hs => y = .a (.agg [ar (hmarkL early k S.l A.l)]) ∧ hs = [svB S, svB A, scC 3 early 0 S, shaT 1 0 first steps]) := by
  refine fn_of_body tds_ok follows_ Try.func74 rfl (t := .a (.c (.p 2 0 0)) :: .a (.c (.w8 k)) :: .a (.c (svC 1 A)) :: anys (Try.f74.ntmps - 3)) rfl (fun w r0 hr _ => ?_)
  obtain ⟨x0, x1, x2, x3, rfl⟩ := len4' hr
  by_cases h1 : k = 1#8
  · have e1 : decide (k = 1#8) = true := decide_eq_true h1
    rw [show hmarkL early k S.l A.l = markL (dervL early [114, 101, 115, 32, 98, 105, 110, 100, 101, 114] []) (S.l ++ A.l) by unfold hmarkL labM; rw [if_pos h1]]
    (repeat first | (refine And.intro ?_ ?_; first | exact rfl | ((exact fun h => absurd h (by first | decide | (rw [e1]; decide))); intro yy; clear yy) | (rotate_left; (exact fun h => absurd h (by first | decide | (rw [e1]; decide))); intro yy; clear yy) | decide | omega) | (with_reducible refine frc_bytesL (by first | omega | decide) ?_) | (with_reducible refine frc_bytesM (by first | omega | decide) ?_))
    refine ⟨some [2], [10], [(0, true), (1, true), (2, true), (3, true), (4, true), (5, true), (6, true), (7, true), (8, true), (9, false), (10, false)], [11], by kernel_rfl, ?_⟩
    (repeat first | (refine And.intro ?_ ?_; first | exact rfl | ((exact fun h => absurd h (by first | decide)); intro yy; clear yy) | (rotate_left; (exact fun h => absurd h (by first | decide)); intro yy; clear yy) | decide | omega) | (with_reducible refine frc_bytesL (by first | omega | decide) ?_) | (with_reducible refine frc_bytesM (by first | omega | decide) ?_))
    refine call_same (fn_kderive true 0 0 0 early [] [114, 101, 115, 32, 98, 105, 110, 100, 101, 114] dn f g hd he (by decide) (Nat.le_refl _) (Nat.le_refl _) (fun _ => rfl)) [0, 3] rfl (by (repeat first | exact trivial | refine ent1 ?_)) (by exact eqSegs_nil (by (repeat first | exact trivial | refine ent1 ?_))) (fun _ _ => trivial) ?_
    rintro y hs' ⟨rfl, dn2, f2, g2, hd2, rfl⟩
    have hrow := fun i hi => derv_row (s := early) (said := []) (lab := [114, 101, 115, 32, 98, 105, 110, 100, 101, 114]) i hi
    have hKl := derv_len early [114, 101, 115, 32, 98, 105, 110, 100, 101, 114] []
    generalize dervL early [114, 101, 115, 32, 98, 105, 110, 100, 101, 114] [] = K at hrow hKl ⊢
    (repeat first | (refine And.intro ?_ ?_; first | exact rfl | ((exact fun h => absurd h (by first | decide)); intro yy; clear yy) | (rotate_left; (exact fun h => absurd h (by first | decide)); intro yy; clear yy) | decide | omega) | (with_reducible refine frc_bytesL (by first | omega | decide) ?_) | (with_reducible refine frc_bytesM (by first | omega | decide) ?_))
    refine ⟨some [2], [1000, 4, 11], [(0, true), (1, true), (2, true), (3, true), (5, true), (6, true), (7, true), (8, true), (9, true), (10, true), (4, false), (11, false), (12, false)], [13], by kernel_rfl, ?_⟩
    (repeat first | (refine And.intro ?_ ?_; first | exact rfl | ((exact fun h => absurd h (by first | decide)); intro yy; clear yy) | (rotate_left; (exact fun h => absurd h (by first | decide)); intro yy; clear yy) | decide | omega) | (with_reducible refine frc_bytesL (by first | omega | decide) ?_) | (with_reducible refine frc_bytesM (by first | omega | decide) ?_))
    refine And.intro ?_ ?_
    · (repeat first | (refine And.intro ?_ ?_; first | exact rfl | ((exact fun h => absurd h (by first | decide)); intro yy; clear yy) | (rotate_left; (exact fun h => absurd h (by first | decide)); intro yy; clear yy) | decide | omega) | (with_reducible refine frc_bytesL (by first | omega | decide) ?_) | (with_reducible refine frc_bytesM (by first | omega | decide) ?_))
      refine call_same (fn_tables dn2 f2 g2) [3] rfl (by (repeat first | exact trivial | refine ent1 ?_)) (by (repeat first | exact trivial | refine ent1 ?_)) (fun _ _ => trivial) ?_
      rintro y hs' ⟨rfl, rfl⟩
      (repeat first | (refine And.intro ?_ ?_; first | exact rfl | ((exact fun h => absurd h (by first | decide)); intro yy; clear yy) | (rotate_left; (exact fun h => absurd h (by first | decide)); intro yy; clear yy) | decide | omega) | (with_reducible refine frc_bytesL (by first | omega | decide) ?_) | (with_reducible refine frc_bytesM (by first | omega | decide) ?_))
      refine call_same (fn_smark false S.z A.z true 32 S.N A.N 0 0 S.o A.o 0 32 S.c A.c 0 K S.l A.l [] 2 2 2 dn2 f2 g2 hd2 (by omega) (by omega) (fun h => Bool.noConfusion h) hS.fit hS.cap hS.nil hA.fit hA.cap hA.nil (by decide) (by decide) (fun _ => rfl) (by decide) (by decide)) [5, 0, 1, 6, 6, 3] rfl (by (repeat first | exact trivial | refine ent1 ?_); refine ⟨hKl.symm, rfl, ?_⟩; (repeat first | exact trivial | refine ent1 ?_)) ?_ (fun _ _ => trivial) ?_
      · refine ⟨rfl, fun j hj => eqC_win0 (fun i hi => congrArg SC.w8 (hrow i (by rw [hKl] at hi; exact hi))) j, ?_⟩
        refine eqC_bts (eqC_bts ?_)
        (repeat first | exact trivial | refine ent1 ?_)
        refine ⟨fun j hj => eqC_parts (fun i hi => ?_) j, ?_⟩
        · have hi : i = 0 ∨ i = 1 := by omega
          rcases hi with rfl | rfl
          · exact ⟨rfl, rfl, rfl, rfl, trivial⟩
          · exact ⟨rfl, rfl, rfl, rfl, trivial⟩
        · (repeat first | exact trivial | refine ent1 ?_)
      rintro y hs' ⟨rfl, rfl⟩
      rw [cat2]
      (repeat first | (refine And.intro ?_ ?_; first | exact rfl | ((exact fun h => absurd h (by first | decide)); intro yy; clear yy) | (rotate_left; (exact fun h => absurd h (by first | decide)); intro yy; clear yy) | decide | omega) | (with_reducible refine frc_bytesL (by first | omega | decide) ?_) | (with_reducible refine frc_bytesM (by first | omega | decide) ?_))
      (repeat first | refine And.intro (by omega) ?_ | refine And.intro (by decide) ?_ | (with_reducible refine frc_parts (by first | omega | decide) ?_) | (with_reducible refine frc_bytesL (by first | omega | decide) ?_) | refine And.intro rfl ?_)
      refine ⟨.a (.agg [ar (markL K (S.l ++ A.l))]), _, ⟨[0, 1, 2, 3], ⟨rfl, rfl, rfl⟩, ?_⟩, rfl, rfl⟩
      (repeat first | exact trivial | refine ent1 ?_)
      refine eqC_bts (eqC_bts ?_)
      (repeat first | exact trivial | refine ent1 ?_)
    · (repeat first | (refine And.intro ?_ ?_; first | exact rfl | ((exact fun h => absurd h (by first | decide)); intro yy; clear yy) | (rotate_left; (exact fun h => absurd h (by first | decide)); intro yy; clear yy) | decide | omega) | (with_reducible refine frc_bytesL (by first | omega | decide) ?_) | (with_reducible refine frc_bytesM (by first | omega | decide) ?_))
      refine call_same (fn_tables dn2 f2 g2) [3] rfl (by (repeat first | exact trivial | refine ent1 ?_)) (by (repeat first | exact trivial | refine ent1 ?_)) (fun _ _ => trivial) ?_
      rintro y hs' ⟨rfl, rfl⟩
      (repeat first | (refine And.intro ?_ ?_; first | exact rfl | ((exact fun h => absurd h (by first | decide)); intro yy; clear yy) | (rotate_left; (exact fun h => absurd h (by first | decide)); intro yy; clear yy) | decide | omega) | (with_reducible refine frc_bytesL (by first | omega | decide) ?_) | (with_reducible refine frc_bytesM (by first | omega | decide) ?_))
      refine call_same (fn_smark false S.z A.z true 32 S.N A.N 0 0 S.o A.o 0 32 S.c A.c 0 K S.l A.l [] 2 2 2 dn2 f2 g2 hd2 (by omega) (by omega) (fun h => Bool.noConfusion h) hS.fit hS.cap hS.nil hA.fit hA.cap hA.nil (by decide) (by decide) (fun _ => rfl) (by decide) (by decide)) [5, 0, 1, 6, 6, 3] rfl (by (repeat first | exact trivial | refine ent1 ?_); refine ⟨hKl.symm, rfl, ?_⟩; (repeat first | exact trivial | refine ent1 ?_)) ?_ (fun _ _ => trivial) ?_
      · refine ⟨rfl, fun j hj => eqC_win0 (fun i hi => congrArg SC.w8 (hrow i (by rw [hKl] at hi; exact hi))) j, ?_⟩
        refine eqC_bts (eqC_bts ?_)
        (repeat first | exact trivial | refine ent1 ?_)
        refine ⟨fun j hj => eqC_parts (fun i hi => ?_) j, ?_⟩
        · have hi : i = 0 ∨ i = 1 := by omega
          rcases hi with rfl | rfl
          · exact ⟨rfl, rfl, rfl, rfl, trivial⟩
          · exact ⟨rfl, rfl, rfl, rfl, trivial⟩
        · (repeat first | exact trivial | refine ent1 ?_)
      rintro y hs' ⟨rfl, rfl⟩
      rw [cat2]
      (repeat first | (refine And.intro ?_ ?_; first | exact rfl | ((exact fun h => absurd h (by first | decide)); intro yy; clear yy) | (rotate_left; (exact fun h => absurd h (by first | decide)); intro yy; clear yy) | decide | omega) | (with_reducible refine frc_bytesL (by first | omega | decide) ?_) | (with_reducible refine frc_bytesM (by first | omega | decide) ?_))
      (repeat first | refine And.intro (by omega) ?_ | refine And.intro (by decide) ?_ | (with_reducible refine frc_parts (by first | omega | decide) ?_) | (with_reducible refine frc_bytesL (by first | omega | decide) ?_) | refine And.intro rfl ?_)
      refine ⟨.a (.agg [ar (markL K (S.l ++ A.l))]), _, ⟨[0, 1, 2, 3], ⟨rfl, rfl, rfl⟩, ?_⟩, rfl, rfl⟩
      (repeat first | exact trivial | refine ent1 ?_)
      refine eqC_bts (eqC_bts ?_)
      (repeat first | exact trivial | refine ent1 ?_)
  have e1 : decide (k = 1#8) = false := decide_eq_false h1
  by_cases h2 : k = 2#8
  · have e2 : decide (k = 2#8) = true := decide_eq_true h2
    rw [show hmarkL early k S.l A.l = markL (dervL early [115, 32, 118, 101, 114, 105, 102, 121] []) (S.l ++ A.l) by unfold hmarkL labM; rw [if_neg h1, if_pos h2]]
    (repeat first | (refine And.intro ?_ ?_; first | exact rfl | ((exact fun h => absurd h (by first | decide | (rw [e1]; decide) | (rw [e2]; decide))); intro yy; clear yy) | (rotate_left; (exact fun h => absurd h (by first | decide | (rw [e1]; decide) | (rw [e2]; decide))); intro yy; clear yy) | decide | omega) | (with_reducible refine frc_bytesL (by first | omega | decide) ?_) | (with_reducible refine frc_bytesM (by first | omega | decide) ?_))
    refine ⟨some [2], [10], [(0, true), (1, true), (2, true), (3, true), (4, true), (5, true), (6, true), (7, true), (8, true), (9, false), (10, false)], [11], by kernel_rfl, ?_⟩
    (repeat first | (refine And.intro ?_ ?_; first | exact rfl | ((exact fun h => absurd h (by first | decide)); intro yy; clear yy) | (rotate_left; (exact fun h => absurd h (by first | decide)); intro yy; clear yy) | decide | omega) | (with_reducible refine frc_bytesL (by first | omega | decide) ?_) | (with_reducible refine frc_bytesM (by first | omega | decide) ?_))
    refine call_same (fn_kderive true 0 0 0 early [] [115, 32, 118, 101, 114, 105, 102, 121] dn f g hd he (by decide) (Nat.le_refl _) (Nat.le_refl _) (fun _ => rfl)) [0, 3] rfl (by (repeat first | exact trivial | refine ent1 ?_)) (by exact eqSegs_nil (by (repeat first | exact trivial | refine ent1 ?_))) (fun _ _ => trivial) ?_
    rintro y hs' ⟨rfl, dn2, f2, g2, hd2, rfl⟩
    have hrow := fun i hi => derv_row (s := early) (said := []) (lab := [115, 32, 118, 101, 114, 105, 102, 121]) i hi
    have hKl := derv_len early [115, 32, 118, 101, 114, 105, 102, 121] []
    generalize dervL early [115, 32, 118, 101, 114, 105, 102, 121] [] = K at hrow hKl ⊢
    (repeat first | (refine And.intro ?_ ?_; first | exact rfl | ((exact fun h => absurd h (by first | decide)); intro yy; clear yy) | (rotate_left; (exact fun h => absurd h (by first | decide)); intro yy; clear yy) | decide | omega) | (with_reducible refine frc_bytesL (by first | omega | decide) ?_) | (with_reducible refine frc_bytesM (by first | omega | decide) ?_))
    refine ⟨some [2], [1000, 4, 11], [(0, true), (1, true), (2, true), (3, true), (5, true), (6, true), (7, true), (8, true), (9, true), (10, true), (4, false), (11, false), (12, false)], [13], by kernel_rfl, ?_⟩
    (repeat first | (refine And.intro ?_ ?_; first | exact rfl | ((exact fun h => absurd h (by first | decide)); intro yy; clear yy) | (rotate_left; (exact fun h => absurd h (by first | decide)); intro yy; clear yy) | decide | omega) | (with_reducible refine frc_bytesL (by first | omega | decide) ?_) | (with_reducible refine frc_bytesM (by first | omega | decide) ?_))
    refine And.intro ?_ ?_
    · (repeat first | (refine And.intro ?_ ?_; first | exact rfl | ((exact fun h => absurd h (by first | decide)); intro yy; clear yy) | (rotate_left; (exact fun h => absurd h (by first | decide)); intro yy; clear yy) | decide | omega) | (with_reducible refine frc_bytesL (by first | omega | decide) ?_) | (with_reducible refine frc_bytesM (by first | omega | decide) ?_))
      refine call_same (fn_tables dn2 f2 g2) [3] rfl (by (repeat first | exact trivial | refine ent1 ?_)) (by (repeat first | exact trivial | refine ent1 ?_)) (fun _ _ => trivial) ?_
      rintro y hs' ⟨rfl, rfl⟩
      (repeat first | (refine And.intro ?_ ?_; first | exact rfl | ((exact fun h => absurd h (by first | decide)); intro yy; clear yy) | (rotate_left; (exact fun h => absurd h (by first | decide)); intro yy; clear yy) | decide | omega) | (with_reducible refine frc_bytesL (by first | omega | decide) ?_) | (with_reducible refine frc_bytesM (by first | omega | decide) ?_))
      refine call_same (fn_smark false S.z A.z true 32 S.N A.N 0 0 S.o A.o 0 32 S.c A.c 0 K S.l A.l [] 2 2 2 dn2 f2 g2 hd2 (by omega) (by omega) (fun h => Bool.noConfusion h) hS.fit hS.cap hS.nil hA.fit hA.cap hA.nil (by decide) (by decide) (fun _ => rfl) (by decide) (by decide)) [5, 0, 1, 6, 6, 3] rfl (by (repeat first | exact trivial | refine ent1 ?_); refine ⟨hKl.symm, rfl, ?_⟩; (repeat first | exact trivial | refine ent1 ?_)) ?_ (fun _ _ => trivial) ?_
      · refine ⟨rfl, fun j hj => eqC_win0 (fun i hi => congrArg SC.w8 (hrow i (by rw [hKl] at hi; exact hi))) j, ?_⟩
        refine eqC_bts (eqC_bts ?_)
        (repeat first | exact trivial | refine ent1 ?_)
        refine ⟨fun j hj => eqC_parts (fun i hi => ?_) j, ?_⟩
        · have hi : i = 0 ∨ i = 1 := by omega
          rcases hi with rfl | rfl
          · exact ⟨rfl, rfl, rfl, rfl, trivial⟩
          · exact ⟨rfl, rfl, rfl, rfl, trivial⟩
        · (repeat first | exact trivial | refine ent1 ?_)
      rintro y hs' ⟨rfl, rfl⟩
      rw [cat2]
      (repeat first | (refine And.intro ?_ ?_; first | exact rfl | ((exact fun h => absurd h (by first | decide)); intro yy; clear yy) | (rotate_left; (exact fun h => absurd h (by first | decide)); intro yy; clear yy) | decide | omega) | (with_reducible refine frc_bytesL (by first | omega | decide) ?_) | (with_reducible refine frc_bytesM (by first | omega | decide) ?_))
      (repeat first | refine And.intro (by omega) ?_ | refine And.intro (by decide) ?_ | (with_reducible refine frc_parts (by first | omega | decide) ?_) | (with_reducible refine frc_bytesL (by first | omega | decide) ?_) | refine And.intro rfl ?_)
      refine ⟨.a (.agg [ar (markL K (S.l ++ A.l))]), _, ⟨[0, 1, 2, 3], ⟨rfl, rfl, rfl⟩, ?_⟩, rfl, rfl⟩
      (repeat first | exact trivial | refine ent1 ?_)
      refine eqC_bts (eqC_bts ?_)
      (repeat first | exact trivial | refine ent1 ?_)
    · (repeat first | (refine And.intro ?_ ?_; first | exact rfl | ((exact fun h => absurd h (by first | decide)); intro yy; clear yy) | (rotate_left; (exact fun h => absurd h (by first | decide)); intro yy; clear yy) | decide | omega) | (with_reducible refine frc_bytesL (by first | omega | decide) ?_) | (with_reducible refine frc_bytesM (by first | omega | decide) ?_))
      refine call_same (fn_tables dn2 f2 g2) [3] rfl (by (repeat first | exact trivial | refine ent1 ?_)) (by (repeat first | exact trivial | refine ent1 ?_)) (fun _ _ => trivial) ?_
      rintro y hs' ⟨rfl, rfl⟩
      (repeat first | (refine And.intro ?_ ?_; first | exact rfl | ((exact fun h => absurd h (by first | decide)); intro yy; clear yy) | (rotate_left; (exact fun h => absurd h (by first | decide)); intro yy; clear yy) | decide | omega) | (with_reducible refine frc_bytesL (by first | omega | decide) ?_) | (with_reducible refine frc_bytesM (by first | omega | decide) ?_))
      refine call_same (fn_smark false S.z A.z true 32 S.N A.N 0 0 S.o A.o 0 32 S.c A.c 0 K S.l A.l [] 2 2 2 dn2 f2 g2 hd2 (by omega) (by omega) (fun h => Bool.noConfusion h) hS.fit hS.cap hS.nil hA.fit hA.cap hA.nil (by decide) (by decide) (fun _ => rfl) (by decide) (by decide)) [5, 0, 1, 6, 6, 3] rfl (by (repeat first | exact trivial | refine ent1 ?_); refine ⟨hKl.symm, rfl, ?_⟩; (repeat first | exact trivial | refine ent1 ?_)) ?_ (fun _ _ => trivial) ?_
      · refine ⟨rfl, fun j hj => eqC_win0 (fun i hi => congrArg SC.w8 (hrow i (by rw [hKl] at hi; exact hi))) j, ?_⟩
        refine eqC_bts (eqC_bts ?_)
        (repeat first | exact trivial | refine ent1 ?_)
        refine ⟨fun j hj => eqC_parts (fun i hi => ?_) j, ?_⟩
        · have hi : i = 0 ∨ i = 1 := by omega
          rcases hi with rfl | rfl
          · exact ⟨rfl, rfl, rfl, rfl, trivial⟩
          · exact ⟨rfl, rfl, rfl, rfl, trivial⟩
        · (repeat first | exact trivial | refine ent1 ?_)
      rintro y hs' ⟨rfl, rfl⟩
      rw [cat2]
      (repeat first | (refine And.intro ?_ ?_; first | exact rfl | ((exact fun h => absurd h (by first | decide)); intro yy; clear yy) | (rotate_left; (exact fun h => absurd h (by first | decide)); intro yy; clear yy) | decide | omega) | (with_reducible refine frc_bytesL (by first | omega | decide) ?_) | (with_reducible refine frc_bytesM (by first | omega | decide) ?_))
      (repeat first | refine And.intro (by omega) ?_ | refine And.intro (by decide) ?_ | (with_reducible refine frc_parts (by first | omega | decide) ?_) | (with_reducible refine frc_bytesL (by first | omega | decide) ?_) | refine And.intro rfl ?_)
      refine ⟨.a (.agg [ar (markL K (S.l ++ A.l))]), _, ⟨[0, 1, 2, 3], ⟨rfl, rfl, rfl⟩, ?_⟩, rfl, rfl⟩
      (repeat first | exact trivial | refine ent1 ?_)
      refine eqC_bts (eqC_bts ?_)
      (repeat first | exact trivial | refine ent1 ?_)
  have e2 : decide (k = 2#8) = false := decide_eq_false h2
  rw [show hmarkL early k S.l A.l = markL (dervL early [99, 32, 102, 105, 110, 105, 115, 104, 101, 100] []) (S.l ++ A.l) by unfold hmarkL labM; rw [if_neg h1, if_neg h2]]
  (repeat first | (refine And.intro ?_ ?_; first | exact rfl | ((exact fun h => absurd h (by first | decide | (rw [e1]; decide) | (rw [e2]; decide))); intro yy; clear yy) | (rotate_left; (exact fun h => absurd h (by first | decide | (rw [e1]; decide) | (rw [e2]; decide))); intro yy; clear yy) | decide | omega) | (with_reducible refine frc_bytesL (by first | omega | decide) ?_) | (with_reducible refine frc_bytesM (by first | omega | decide) ?_))
  refine ⟨some [2], [10], [(0, true), (1, true), (2, true), (3, true), (4, true), (5, true), (6, true), (7, true), (8, true), (9, false), (10, false)], [11], by kernel_rfl, ?_⟩
  (repeat first | (refine And.intro ?_ ?_; first | exact rfl | ((exact fun h => absurd h (by first | decide)); intro yy; clear yy) | (rotate_left; (exact fun h => absurd h (by first | decide)); intro yy; clear yy) | decide | omega) | (with_reducible refine frc_bytesL (by first | omega | decide) ?_) | (with_reducible refine frc_bytesM (by first | omega | decide) ?_))
  refine call_same (fn_kderive true 0 0 0 early [] [99, 32, 102, 105, 110, 105, 115, 104, 101, 100] dn f g hd he (by decide) (Nat.le_refl _) (Nat.le_refl _) (fun _ => rfl)) [0, 3] rfl (by (repeat first | exact trivial | refine ent1 ?_)) (by exact eqSegs_nil (by (repeat first | exact trivial | refine ent1 ?_))) (fun _ _ => trivial) ?_
  rintro y hs' ⟨rfl, dn2, f2, g2, hd2, rfl⟩
  have hrow := fun i hi => derv_row (s := early) (said := []) (lab := [99, 32, 102, 105, 110, 105, 115, 104, 101, 100]) i hi
  have hKl := derv_len early [99, 32, 102, 105, 110, 105, 115, 104, 101, 100] []
  generalize dervL early [99, 32, 102, 105, 110, 105, 115, 104, 101, 100] [] = K at hrow hKl ⊢
  (repeat first | (refine And.intro ?_ ?_; first | exact rfl | ((exact fun h => absurd h (by first | decide)); intro yy; clear yy) | (rotate_left; (exact fun h => absurd h (by first | decide)); intro yy; clear yy) | decide | omega) | (with_reducible refine frc_bytesL (by first | omega | decide) ?_) | (with_reducible refine frc_bytesM (by first | omega | decide) ?_))
  refine ⟨some [2], [1000, 4, 11], [(0, true), (1, true), (2, true), (3, true), (5, true), (6, true), (7, true), (8, true), (9, true), (10, true), (4, false), (11, false), (12, false)], [13], by kernel_rfl, ?_⟩
  (repeat first | (refine And.intro ?_ ?_; first | exact rfl | ((exact fun h => absurd h (by first | decide)); intro yy; clear yy) | (rotate_left; (exact fun h => absurd h (by first | decide)); intro yy; clear yy) | decide | omega) | (with_reducible refine frc_bytesL (by first | omega | decide) ?_) | (with_reducible refine frc_bytesM (by first | omega | decide) ?_))
  refine And.intro ?_ ?_
  · (repeat first | (refine And.intro ?_ ?_; first | exact rfl | ((exact fun h => absurd h (by first | decide)); intro yy; clear yy) | (rotate_left; (exact fun h => absurd h (by first | decide)); intro yy; clear yy) | decide | omega) | (with_reducible refine frc_bytesL (by first | omega | decide) ?_) | (with_reducible refine frc_bytesM (by first | omega | decide) ?_))
    refine call_same (fn_tables dn2 f2 g2) [3] rfl (by (repeat first | exact trivial | refine ent1 ?_)) (by (repeat first | exact trivial | refine ent1 ?_)) (fun _ _ => trivial) ?_
    rintro y hs' ⟨rfl, rfl⟩
    (repeat first | (refine And.intro ?_ ?_; first | exact rfl | ((exact fun h => absurd h (by first | decide)); intro yy; clear yy) | (rotate_left; (exact fun h => absurd h (by first | decide)); intro yy; clear yy) | decide | omega) | (with_reducible refine frc_bytesL (by first | omega | decide) ?_) | (with_reducible refine frc_bytesM (by first | omega | decide) ?_))
    refine call_same (fn_smark false S.z A.z true 32 S.N A.N 0 0 S.o A.o 0 32 S.c A.c 0 K S.l A.l [] 2 2 2 dn2 f2 g2 hd2 (by omega) (by omega) (fun h => Bool.noConfusion h) hS.fit hS.cap hS.nil hA.fit hA.cap hA.nil (by decide) (by decide) (fun _ => rfl) (by decide) (by decide)) [5, 0, 1, 6, 6, 3] rfl (by (repeat first | exact trivial | refine ent1 ?_); refine ⟨hKl.symm, rfl, ?_⟩; (repeat first | exact trivial | refine ent1 ?_)) ?_ (fun _ _ => trivial) ?_
    · refine ⟨rfl, fun j hj => eqC_win0 (fun i hi => congrArg SC.w8 (hrow i (by rw [hKl] at hi; exact hi))) j, ?_⟩
      refine eqC_bts (eqC_bts ?_)
      (repeat first | exact trivial | refine ent1 ?_)
      refine ⟨fun j hj => eqC_parts (fun i hi => ?_) j, ?_⟩
      · have hi : i = 0 ∨ i = 1 := by omega
        rcases hi with rfl | rfl
        · exact ⟨rfl, rfl, rfl, rfl, trivial⟩
        · exact ⟨rfl, rfl, rfl, rfl, trivial⟩
      · (repeat first | exact trivial | refine ent1 ?_)
    rintro y hs' ⟨rfl, rfl⟩
    rw [cat2]
    (repeat first | (refine And.intro ?_ ?_; first | exact rfl | ((exact fun h => absurd h (by first | decide)); intro yy; clear yy) | (rotate_left; (exact fun h => absurd h (by first | decide)); intro yy; clear yy) | decide | omega) | (with_reducible refine frc_bytesL (by first | omega | decide) ?_) | (with_reducible refine frc_bytesM (by first | omega | decide) ?_))
    (repeat first | refine And.intro (by omega) ?_ | refine And.intro (by decide) ?_ | (with_reducible refine frc_parts (by first | omega | decide) ?_) | (with_reducible refine frc_bytesL (by first | omega | decide) ?_) | refine And.intro rfl ?_)
    refine ⟨.a (.agg [ar (markL K (S.l ++ A.l))]), _, ⟨[0, 1, 2, 3], ⟨rfl, rfl, rfl⟩, ?_⟩, rfl, rfl⟩
    (repeat first | exact trivial | refine ent1 ?_)
    refine eqC_bts (eqC_bts ?_)
    (repeat first | exact trivial | refine ent1 ?_)
  · (repeat first | (refine And.intro ?_ ?_; first | exact rfl | ((exact fun h => absurd h (by first | decide)); intro yy; clear yy) | (rotate_left; (exact fun h => absurd h (by first | decide)); intro yy; clear yy) | decide | omega) | (with_reducible refine frc_bytesL (by first | omega | decide) ?_) | (with_reducible refine frc_bytesM (by first | omega | decide) ?_))
    refine call_same (fn_tables dn2 f2 g2) [3] rfl (by (repeat first | exact trivial | refine ent1 ?_)) (by (repeat first | exact trivial | refine ent1 ?_)) (fun _ _ => trivial) ?_
    rintro y hs' ⟨rfl, rfl⟩
    (repeat first | (refine And.intro ?_ ?_; first | exact rfl | ((exact fun h => absurd h (by first | decide)); intro yy; clear yy) | (rotate_left; (exact fun h => absurd h (by first | decide)); intro yy; clear yy) | decide | omega) | (with_reducible refine frc_bytesL (by first | omega | decide) ?_) | (with_reducible refine frc_bytesM (by first | omega | decide) ?_))
    refine call_same (fn_smark false S.z A.z true 32 S.N A.N 0 0 S.o A.o 0 32 S.c A.c 0 K S.l A.l [] 2 2 2 dn2 f2 g2 hd2 (by omega) (by omega) (fun h => Bool.noConfusion h) hS.fit hS.cap hS.nil hA.fit hA.cap hA.nil (by decide) (by decide) (fun _ => rfl) (by decide) (by decide)) [5, 0, 1, 6, 6, 3] rfl (by (repeat first | exact trivial | refine ent1 ?_); refine ⟨hKl.symm, rfl, ?_⟩; (repeat first | exact trivial | refine ent1 ?_)) ?_ (fun _ _ => trivial) ?_
    · refine ⟨rfl, fun j hj => eqC_win0 (fun i hi => congrArg SC.w8 (hrow i (by rw [hKl] at hi; exact hi))) j, ?_⟩
      refine eqC_bts (eqC_bts ?_)
      (repeat first | exact trivial | refine ent1 ?_)
      refine ⟨fun j hj => eqC_parts (fun i hi => ?_) j, ?_⟩
      · have hi : i = 0 ∨ i = 1 := by omega
        rcases hi with rfl | rfl
        · exact ⟨rfl, rfl, rfl, rfl, trivial⟩
        · exact ⟨rfl, rfl, rfl, rfl, trivial⟩
      · (repeat first | exact trivial | refine ent1 ?_)
    rintro y hs' ⟨rfl, rfl⟩
    rw [cat2]
    (repeat first | (refine And.intro ?_ ?_; first | exact rfl | ((exact fun h => absurd h (by first | decide)); intro yy; clear yy) | (rotate_left; (exact fun h => absurd h (by first | decide)); intro yy; clear yy) | decide | omega) | (with_reducible refine frc_bytesL (by first | omega | decide) ?_) | (with_reducible refine frc_bytesM (by first | omega | decide) ?_))
    (repeat first | refine And.intro (by omega) ?_ | refine And.intro (by decide) ?_ | (with_reducible refine frc_parts (by first | omega | decide) ?_) | (with_reducible refine frc_bytesL (by first | omega | decide) ?_) | refine And.intro rfl ?_)
    refine ⟨.a (.agg [ar (markL K (S.l ++ A.l))]), _, ⟨[0, 1, 2, 3], ⟨rfl, rfl, rfl⟩, ?_⟩, rfl, rfl⟩
    (repeat first | exact trivial | refine ent1 ?_)
    refine eqC_bts (eqC_bts ?_)
    (repeat first | exact trivial | refine ent1 ?_)
end Sx
end Go.Proofs.Ytkjdkeolkigibaa
end

section
/-
  A message that may be, of any; its bytes by the document. No condition.
-/
namespace Go.Proofs.Ytkjdkeolkigibaa
set_option linter.unusedVariables false
namespace Vi
open Sha Sx
def kindF (k : BitVec 8) : BitVec 8 := if k.toNat % 3 = 0 then 1#8 else if k.toNat % 3 = 1 then 2#8 else 20#8
def fitMs (x : Ms) (k : BitVec 8) : Ms := if kindF k = 20#8 then ⟨20#8, zer32, pm0, x.m⟩ else ⟨kindF k, x.r, fitP x.p, x.m⟩
theorem kind_known (k : BitVec 8) : knownK (kindF k) = true := by
  unfold kindF
  split
  · rfl
  · split <;> rfl
theorem zer_len : zer32.length = 32 := by simp [zer32]
theorem fitMs_ok {x : Ms} (hx : x.Ok) (k : BitVec 8) : (fitMs x k).Ok ∧ errMs (fitMs x k) = 0 ∧ bare (fitMs x k) := by
  unfold fitMs
  split
  · exact ⟨⟨zer_len, nil_ok, hx.m⟩, rfl, fun _ => ⟨rfl, rfl, rfl, rfl, rfl, rfl, rfl, rfl, rfl, rfl, rfl⟩⟩
  · rename_i h
    refine ⟨⟨hx.r, take_ok20 hx.p 20, hx.m⟩, ?_, fun h2 => absurd h2 h⟩
    unfold errMs
    rw [if_neg (by rw [show (Ms.mk (kindF k) x.r (fitP x.p) x.m).k = kindF k from rfl, kind_known]; decide), if_neg h]
    exact fit_check x.p
theorem fitMs_sub (x : Ms) (k : BitVec 8) : Sub x.p.s (fitMs x k).p.s := by
  unfold fitMs
  split
  · exact Sub.nil _
  · exact take_sub 20
/-- What stands ahead of a message's mark. -/
def frontMs (x : Ms) : Bs := if x.k = 20#8 then [] else x.r ++ longL (putP x.p)
def openMs (x : Ms) : Bs := headMs x.k ((frontMs x).length + 32) ++ frontMs x
theorem open_put {x : Ms} (hx : x.Ok) : openMs x ++ x.m = putMs x := by
  have hm := hx.m
  unfold openMs putMs frontMs bodyMs
  split
  · rw [List.length_nil, hm, List.append_nil]
  · simp only [List.length_append, hm, List.append_assoc, Nat.add_assoc]
end Vi
namespace Sx
open Sha Vi
theorem nthC_repl : ∀ {n j : Nat} {x : SC}, j < n → nthC (List.replicate n x) j = x
  | n + 1, 0, x, _ => rfl
  | n + 1, j + 1, x, h => nthC_repl (n := n) (Nat.lt_of_succ_lt_succ h)
theorem zrow2 {q : List Nat} : ∀ j, j < 32 → eqC q (nthC (List.replicate 32 (.w8 0)) j) (.w8 (L zer32 j)) True := fun j hj => by
  rw [nthC_repl hj]
  exact zrow j hj
set_option maxRecDepth 20000 in
set_option maxHeartbeats 8000000 in
theorem fn_lhfit (x : Ms) (hx : x.Ok) (k : BitVec 8) : FnR Try.prog tds 35 1 [svB x.p.s] [.agg (msC 0 x), .c (.w8 k)] (fun _ => True)
    (fun y hs => y = .a (.agg (msC 0 (fitMs x k))) ∧ hs = [svB x.p.s]) := by
  refine fn_of_body tds_ok follows_ Try.func35 rfl (t := .a (.agg (msC 0 x)) :: .a (.c (.w8 k)) :: anys (Try.f35.ntmps - 2)) rfl (fun w r0 hr _ => ?_)
  obtain ⟨x0, rfl⟩ := List.length_eq_one_iff.1 hr
  have hk : (k % 3#8).toNat = k.toNat % 3 := by rw [BitVec.toNat_umod]; rfl
  have hkl : (k % 3#8).toNat < 3 := by rw [hk]; omega
  have hkf : ∀ i : Nat, i = k.toNat % 3 → nthC [.w8 1#8, .w8 2#8, .w8 20#8] i = .w8 (kindF k) := by
    rintro i rfl
    unfold kindF
    have : k.toNat % 3 = 0 ∨ k.toNat % 3 = 1 ∨ k.toNat % 3 = 2 := by omega
    rcases this with h | h | h <;> rw [h] <;> rfl
  (repeat first | (refine And.intro ?_ ?_; first | exact rfl | ((exact fun h => absurd h (by first | decide)); intro yy; clear yy) | (rotate_left; (exact fun h => absurd h (by first | decide)); intro yy; clear yy) | decide | omega) | (with_reducible refine frc_bytesL (by first | omega | decide) ?_) | (with_reducible refine frc_bytesM (by first | omega | decide) ?_))
  refine And.intro (show (0 : Int) ≤ (((k % 3#8).toNat : Nat) : Int) ∧ (((k % 3#8).toNat : Nat) : Int) < 3 by omega) ?_
  (repeat first | (refine And.intro ?_ ?_; first | exact rfl | ((exact fun h => absurd h (by first | decide)); intro yy; clear yy) | (rotate_left; (exact fun h => absurd h (by first | decide)); intro yy; clear yy) | decide | omega) | (with_reducible refine frc_bytesL (by first | omega | decide) ?_) | (with_reducible refine frc_bytesM (by first | omega | decide) ?_))
  refine And.intro (show (((k % 3#8).toNat : Nat) : Int).toNat + 0 < 3 by omega) ?_
  refine frc_eq (y := .w8 (kindF k)) (hkf ((((k % 3#8).toNat : Nat) : Int).toNat + 0) (by omega)) ?_
  (repeat first | (refine And.intro ?_ ?_; first | exact rfl | ((exact fun h => absurd h (by first | decide)); intro yy; clear yy) | (rotate_left; (exact fun h => absurd h (by first | decide)); intro yy; clear yy) | decide | omega) | (with_reducible refine frc_bytesL (by first | omega | decide) ?_) | (with_reducible refine frc_bytesM (by first | omega | decide) ?_))
  refine call_same (fn_lpfit x.p hx.p) [0] rfl (by (repeat first | exact trivial | refine ent1 ?_)) (by refine eqC_bts ?_; (repeat first | exact trivial | refine ent1 ?_)) (fun _ _ => trivial) ?_
  rintro y hs' ⟨rfl, rfl⟩
  unfold fitMs
  by_cases h2 : kindF k = 20#8
  · have e2 : decide (kindF k = 20#8) = true := decide_eq_true h2
    rw [if_pos h2]
    (repeat first | (refine And.intro ?_ ?_; first | exact rfl | ((exact fun h => absurd h (by first | decide | (rw [e2]; decide))); intro yy; clear yy) | (rotate_left; (exact fun h => absurd h (by first | decide | (rw [e2]; decide))); intro yy; clear yy) | decide | omega) | (with_reducible refine frc_bytesL (by first | omega | decide) ?_) | (with_reducible refine frc_bytesM (by first | omega | decide) ?_))
    (repeat first | refine And.intro (by omega) ?_ | refine And.intro (by decide) ?_ | (with_reducible refine frc_parts (by first | omega | decide) ?_) | (with_reducible refine frc_bytesL (by first | omega | decide) ?_) | refine And.intro rfl ?_)
    refine ⟨.a (.agg (msC 0 ⟨20#8, zer32, pm0, x.m⟩)), _, ⟨[0], ⟨rfl, rfl, rfl⟩, ?_⟩, rfl, rfl⟩
    (repeat first | exact trivial | refine ent1 ?_)
    refine ⟨zrow2, ?_⟩
    (repeat first | exact trivial | refine ent1 ?_)
    refine eqC_bts ?_
    (repeat first | exact trivial | refine ent1 ?_)
  have e2 : decide (kindF k = 20#8) = false := decide_eq_false h2
  rw [if_neg h2]
  (repeat first | (refine And.intro ?_ ?_; first | exact rfl | ((exact fun h => absurd h (by first | decide | (rw [e2]; decide))); intro yy; clear yy) | (rotate_left; (exact fun h => absurd h (by first | decide | (rw [e2]; decide))); intro yy; clear yy) | decide | omega) | (with_reducible refine frc_bytesL (by first | omega | decide) ?_) | (with_reducible refine frc_bytesM (by first | omega | decide) ?_))
  (repeat first | refine And.intro (by omega) ?_ | refine And.intro (by decide) ?_ | (with_reducible refine frc_parts (by first | omega | decide) ?_) | (with_reducible refine frc_bytesL (by first | omega | decide) ?_) | refine And.intro rfl ?_)
  refine ⟨.a (.agg (msC 0 ⟨kindF k, x.r, fitP x.p, x.m⟩)), _, ⟨[0], ⟨rfl, rfl, rfl⟩, ?_⟩, rfl, rfl⟩
  (repeat first | exact trivial | refine ent1 ?_)
  refine eqC_bts ?_
  (repeat first | exact trivial | refine ent1 ?_)
set_option maxRecDepth 20000 in
set_option maxHeartbeats 8000000 in
theorem fn_hbody (x : Ms) (hx : x.Ok) (hE : errMs x = 0) : FnR Try.prog tds 37 1 [svB x.p.s] [.agg (msC 0 x)] (fun _ => True)
    (fun y hs => ∃ c, (openMs x).length ≤ c ∧ y = .a (.c (.sl 1 0 0 (openMs x).length c)) ∧ hs = [svB x.p.s, lsC (openMs x) c]) := by
  refine fn_of_body tds_ok follows_ Try.func37 rfl (t := .a (.agg (msC 0 x)) :: anys (Try.f37.ntmps - 1)) rfl (fun w r0 hr _ => ?_)
  obtain ⟨x0, rfl⟩ := List.length_eq_one_iff.1 hr
  have hr32 := hx.r
  obtain ⟨hkn, hcp⟩ := err_known hE
  by_cases h2 : x.k = 20#8
  · have e2 : decide (x.k ≠ 20#8) = false := decide_eq_false fun h => h h2
    have ho : openMs x = headMs x.k 32 := by unfold openMs frontMs; rw [if_pos h2]; rfl
    rw [ho]
    (repeat first | (refine And.intro ?_ ?_; first | exact rfl | ((exact fun h => absurd h (by first | decide | (rw [e2]; decide))); intro yy; clear yy) | (rotate_left; (exact fun h => absurd h (by first | decide | (rw [e2]; decide))); intro yy; clear yy) | decide | omega) | (with_reducible refine frc_bytesL (by first | omega | decide) ?_) | (with_reducible refine frc_bytesM (by first | omega | decide) ?_))
    intro c2 hc2
    (repeat first | (refine And.intro ?_ ?_; first | exact rfl | ((exact fun h => absurd h (by first | decide | (rw [e2]; decide))); intro yy; clear yy) | (rotate_left; (exact fun h => absurd h (by first | decide | (rw [e2]; decide))); intro yy; clear yy) | decide | omega) | (with_reducible refine frc_bytesL (by first | omega | decide) ?_) | (with_reducible refine frc_bytesM (by first | omega | decide) ?_))
    refine ⟨.a (.c (.sl 1 0 0 4 c2)), _, ⟨[0, 3], ⟨rfl, rfl, rfl⟩, ?_⟩, c2, hc2, rfl, rfl⟩
    (repeat first | exact trivial | refine ent1 ?_)
    refine eqC_bts ?_
    (repeat first | exact trivial | refine ent1 ?_)
    refine ⟨fun j hj => eqC_bytes (fun i hi => ?_) j, ?_⟩
    · have hi : i < 4 + 0 := hi
      have := app_row (l := headMs x.k 32) (m := []) (n := 4) (k := 0) (f := nthC [.w8 x.k, .w8 (BitVec.ofInt 8 ((((0 : Nat) : Int) + 32) / 65536)), .w8 (BitVec.ofInt 8 ((((0 : Nat) : Int) + 32) / 256)), .w8 (BitVec.ofInt 8 (((0 : Nat) : Int) + 32))]) (g := fun _ => .any) rfl rfl (fun i hi => by
        have : i = 0 ∨ i = 1 ∨ i = 2 ∨ i = 3 := by omega
        rcases this with rfl | rfl | rfl | rfl <;> rfl) (fun i hi => absurd hi (by omega)) i hi
      rw [List.append_nil] at this
      exact this
    (repeat first | exact trivial | refine ent1 ?_)
  have e2 : decide (x.k ≠ 20#8) = true := decide_eq_true h2
  have hc := hcp h2
  (repeat first | (refine And.intro ?_ ?_; first | exact rfl | ((exact fun h => absurd h (by first | decide | (rw [e2]; decide))); intro yy; clear yy) | (rotate_left; (exact fun h => absurd h (by first | decide | (rw [e2]; decide))); intro yy; clear yy) | decide | omega) | (with_reducible refine frc_bytesL (by first | omega | decide) ?_) | (with_reducible refine frc_bytesM (by first | omega | decide) ?_))
  refine call_same (fn_qparams x.p hx.p hc) [0] rfl (by (repeat first | exact trivial | refine ent1 ?_); refine ⟨fun j hj => eqC_nums (numsN rfl) j, ?_⟩; (repeat first | exact trivial | refine ent1 ?_)) (by refine eqC_bts ?_; (repeat first | exact trivial | refine ent1 ?_)) (fun _ _ => trivial) ?_
  rintro y hs' ⟨c1, hc1, rfl, rfl⟩
  have hbl := (bodyMs_len hx hE).1
  have hfr : frontMs x = x.r ++ longL (putP x.p) := by unfold frontMs; rw [if_neg h2]
  have hbo : bodyMs x = x.r ++ longL (putP x.p) ++ x.m := by unfold bodyMs; rw [if_neg h2]
  have ho : openMs x = headMs x.k ((frontMs x).length + 32) ++ frontMs x := rfl
  rw [hbo] at hbl
  rw [hfr] at ho
  have hQ0 : longL (putP x.p) = putL (BitVec.ofNat 64 (putP x.p).length) ++ putP x.p := rfl
  rw [hQ0] at hbl ho
  have hsm : (putP x.p).length ≤ 1000000 := by simp only [List.length_append] at hbl; omega
  rw [ho]
  clear ho hQ0 hfr hbo
  generalize putP x.p = PP at hbl hsm hc1 ⊢
  (repeat first | (refine And.intro ?_ ?_; first | exact rfl | ((exact fun h => absurd h (by first | decide | (rw [e2]; decide))); intro yy; clear yy) | (rotate_left; (exact fun h => absurd h (by first | decide | (rw [e2]; decide))); intro yy; clear yy) | decide | omega) | (with_reducible refine frc_bytesL (by first | omega | decide) ?_) | (with_reducible refine frc_bytesM (by first | omega | decide) ?_))
  intro c2 hc2
  (repeat first | (refine And.intro ?_ ?_; first | exact rfl | ((exact fun h => absurd h (by first | decide | (rw [e2]; decide))); intro yy; clear yy) | (rotate_left; (exact fun h => absurd h (by first | decide | (rw [e2]; decide))); intro yy; clear yy) | decide | omega) | (with_reducible refine frc_bytesL (by first | omega | decide) ?_) | (with_reducible refine frc_bytesM (by first | omega | decide) ?_))
  rw [show BitVec.ofInt 64 ((PP.length : Nat) : Int) = BitVec.ofNat 64 PP.length from BitVec.ofInt_natCast _ _]
  refine call_same (fn_qput (BitVec.ofNat 64 PP.length) (lenN_of hsm)) [] rfl (by (repeat first | exact trivial | refine ent1 ?_)) trivial (fun _ _ => trivial) ?_
  rintro y hs' ⟨c3, hc3, rfl, rfl⟩
  have hql := putL_len (BitVec.ofNat 64 PP.length)
  generalize putL (BitVec.ofNat 64 PP.length) = Q at hbl hql ⊢
  simp only [List.length_append] at hbl
  refine ⟨by show 0 + Q.length ≤ c3; omega, ?_⟩
  refine ⟨⟨hc2, by show 0 + c2 ≤ c2; omega, by show (32 + Q.length) * 1 ≤ 140737488355328; omega⟩, fun c4 hc4 => ?_⟩
  refine ⟨by show 0 + PP.length ≤ c1; omega, ?_⟩
  refine ⟨⟨hc4, by show 0 + c4 ≤ c4; omega, by show (32 + Q.length + PP.length) * 1 ≤ 140737488355328; omega⟩, fun c5 hc5 => ?_⟩
  refine And.intro (show (-9223372036854775808 : Int) ≤ ((32 + Q.length + PP.length : Nat) : Int) + 32 ∧ ((32 + Q.length + PP.length : Nat) : Int) + 32 ≤ 9223372036854775807 by omega) ?_
  refine And.intro (show (0 : Int) ≤ ((32 + Q.length + PP.length : Nat) : Int) + 32 ∧ (0 : Int) < 65536 ∧ ((32 + Q.length + PP.length : Nat) : Int) + 32 ≤ 9223372036854775807 by omega) ?_
  refine And.intro (show (0 : Int) ≤ ((32 + Q.length + PP.length : Nat) : Int) + 32 ∧ (0 : Int) < 256 ∧ ((32 + Q.length + PP.length : Nat) : Int) + 32 ≤ 9223372036854775807 by omega) ?_
  (repeat first | (refine And.intro ?_ ?_; first | exact rfl | ((exact fun h => absurd h (by first | decide | (rw [e2]; decide))); intro yy; clear yy) | (rotate_left; (exact fun h => absurd h (by first | decide | (rw [e2]; decide))); intro yy; clear yy) | decide | omega) | (with_reducible refine frc_bytesL (by first | omega | decide) ?_) | (with_reducible refine frc_bytesM (by first | omega | decide) ?_))
  refine ⟨by show 0 + (32 + Q.length + PP.length) ≤ c5; rw [Nat.zero_add]; exact hc5, ?_⟩
  refine ⟨⟨Nat.le_refl _, Nat.le_refl _, by show (4 + (32 + Q.length + PP.length)) * 1 ≤ 140737488355328; omega⟩, fun c6 hc6 => ?_⟩
  have hF : x.r ++ (Q ++ PP) = (x.r ++ Q) ++ PP := (List.append_assoc _ _ _).symm
  have hFl : (x.r ++ (Q ++ PP)).length = 32 + Q.length + PP.length := by simp only [List.length_append]; omega
  have hOl : (headMs x.k ((x.r ++ (Q ++ PP)).length + 32) ++ (x.r ++ (Q ++ PP))).length = 4 + (32 + Q.length + PP.length) := by rw [List.length_append, hFl]; rfl
  (repeat first | (refine And.intro ?_ ?_; first | exact rfl | ((exact fun h => absurd h (by first | decide | (rw [e2]; decide))); intro yy; clear yy) | (rotate_left; (exact fun h => absurd h (by first | decide | (rw [e2]; decide))); intro yy; clear yy) | decide | omega) | (with_reducible refine frc_bytesL (by first | omega | decide) ?_) | (with_reducible refine frc_bytesM (by first | omega | decide) ?_))
  refine ⟨.a (.c (.sl 1 0 0 (headMs x.k ((x.r ++ (Q ++ PP)).length + 32) ++ (x.r ++ (Q ++ PP))).length c6)), _, ⟨[0, 9], ⟨rfl, rfl, rfl⟩, ?_⟩, c6, by rw [hOl]; exact hc6, rfl, rfl⟩
  (repeat first | exact trivial | refine ent1 ?_)
  refine ⟨hOl.symm, rfl, ?_⟩
  (repeat first | exact trivial | refine ent1 ?_)
  refine eqC_bts ?_
  (repeat first | exact trivial | refine ent1 ?_)
  refine ⟨fun j hj => eqC_bytes (fun i hi => ?_) j, ?_⟩
  · rw [hOl] at hi
    refine app_row (l := headMs x.k ((x.r ++ (Q ++ PP)).length + 32)) (m := x.r ++ (Q ++ PP)) (n := 4) (k := 32 + Q.length + PP.length) rfl hFl (fun i hi => ?_) (fun q hq => ?_) i hi
    · rw [hFl]
      have : i = 0 ∨ i = 1 ∨ i = 2 ∨ i = 3 := by omega
      rcases this with rfl | rfl | rfl | rfl
      · rfl
      · exact congrArg SC.w8 (BitVec.ofInt_natCast 8 ((32 + Q.length + PP.length + 32) / 65536))
      · exact congrArg SC.w8 (BitVec.ofInt_natCast 8 ((32 + Q.length + PP.length + 32) / 256))
      · exact congrArg SC.w8 (BitVec.ofInt_natCast 8 (32 + Q.length + PP.length + 32))
    · rw [hF]
      exact app_row (l := x.r ++ Q) (m := PP) (n := 32 + Q.length) (k := PP.length) (by rw [List.length_append, hr32]) rfl (fun i hi => app_row (l := x.r) (m := Q) (n := 32) (k := Q.length) hr32 rfl (fun i hi => new_row (m := x.r) (fun q hq => rfl) i hi) (fun q hq => mp_row q hq) i hi) (fun q hq => mp_row q hq) q hq
  (repeat first | exact trivial | refine ent1 ?_)
end Sx
end Go.Proofs.Ytkjdkeolkigibaa
end

section
/-
  A schedule made; its secrets; a first message said, heard. No condition.
-/
namespace Go.Proofs.Ytkjdkeolkigibaa
set_option linter.unusedVariables false
namespace Vi
open Sha Sx
def earlyL (key : Bs) : Bs := markL zer32 key
theorem early_len (key : Bs) : (earlyL key).length = 32 := markL_len _ _
def oneL (early : Bs) : Bs := markL (dervL early [100, 101, 114, 105, 118, 101, 100] []) []
def twoL (early : Bs) : Bs := markL (dervL (oneL early) [100, 101, 114, 105, 118, 101, 100] []) []
end Vi
namespace Sx
open Sha Vi
abbrev scN (t : Nat) (early : Bs) : List Seg := [.one (.p t 0 0), ar early, .one (.slc none 0 0)]
abbrev scS (t : Nat) (early : Bs) (i n c : Nat) : List Seg := [.one (.p t 0 0), ar early, .one (.sl i 0 0 n c)]
theorem exF_row {q : List Nat} {s said : Bs} {lab : List UInt8} {g : Nat → Nat} : ∀ j, j < 32 → eqC q (SC.mp g (.w8 (exF s (labT lab (sumL said) 32) j))) (.w8 (L (dervL s lab said) j)) True := fun j hj => ⟨derv_row j hj, trivial⟩
set_option maxRecDepth 20000 in
set_option maxHeartbeats 8000000 in
theorem fn_hnew (K : Sl) (hK : K.Ok) (dn : BitVec 32) (f g : Nat → BitVec 32) (hd : TabOk dn f g) :
    FnR Try.prog tds 40 1 [svB K, shaT dn 0 f g] [.c (.p 1 0 0), .c (svC 0 K)] (fun _ => True)
    (fun y hs => y = .a (.c (.p 2 0 0)) ∧ hs = [svB K, shaT 1 0 first steps, scN 1 (earlyL K.l)]) := by
  refine fn_of_body tds_ok follows_ Try.func40 rfl (t := .a (.c (.p 1 0 0)) :: .a (.c (svC 0 K)) :: anys (Try.f40.ntmps - 2)) rfl (fun w r0 hr _ => ?_)
  obtain ⟨x0, x1, rfl⟩ := len2' hr
  (repeat first | (refine And.intro ?_ ?_; first | exact rfl | ((exact fun h => absurd h (by first | decide)); intro yy; clear yy) | (rotate_left; (exact fun h => absurd h (by first | decide)); intro yy; clear yy) | decide | omega) | (with_reducible refine frc_bytesL (by first | omega | decide) ?_) | (with_reducible refine frc_bytesM (by first | omega | decide) ?_))
  refine call_same (fn_extract false K.z 32 K.N 0 K.o 32 K.c zer32 K.l dn f g hd (by rw [zer_len]; decide) (by rw [zer_len]; decide) (fun h => Bool.noConfusion h) hK.fit hK.cap hK.nil) [2, 0, 1] rfl (by (repeat first | exact trivial | refine ent1 ?_)) ?_ (fun _ _ => trivial) ?_
  · refine ⟨rfl, fun j hj => eqC_win0 (f := fun _ => SC.w8 0) (fun i hi => ?_) j, ?_⟩
    · rw [zer_len] at hi
      exact congrArg SC.w8 (zrow (q := []) i hi).1
    refine eqC_bts ?_
    (repeat first | exact trivial | refine ent1 ?_)
  rintro y hs' ⟨rfl, rfl⟩
  rw [show markL zer32 K.l = earlyL K.l from rfl]
  generalize earlyL K.l = E
  (repeat first | (refine And.intro ?_ ?_; first | exact rfl | ((exact fun h => absurd h (by first | decide)); intro yy; clear yy) | (rotate_left; (exact fun h => absurd h (by first | decide)); intro yy; clear yy) | decide | omega) | (with_reducible refine frc_bytesL (by first | omega | decide) ?_) | (with_reducible refine frc_bytesM (by first | omega | decide) ?_))
  refine ⟨.a (.c (.p 2 0 0)), _, ⟨[0, 1, 3], ⟨rfl, rfl, rfl⟩, ?_⟩, rfl, rfl⟩
  (repeat first | exact trivial | refine ent1 ?_)
  refine eqC_bts ?_
  (repeat first | exact trivial | refine ent1 ?_)
set_option maxRecDepth 20000 in
set_option maxHeartbeats 8000000 in
theorem fn_hsecrets (S : Sl) (hS : S.Ok) (early : Bs) (he : early.length = 32) (dn : BitVec 32) (f g : Nat → BitVec 32) (hd : TabOk dn f g) :
    FnR Try.prog tds 46 2 [svB S, scC 2 early 0 S, shaT dn 0 f g] [.c (.p 1 0 0)] (fun _ => True)
    (fun y hs => y = .a (.agg [ar (dervL (oneL early) [99, 32, 104, 115, 32, 116, 114, 97, 102, 102, 105, 99] S.l), ar (dervL (oneL early) [115, 32, 104, 115, 32, 116, 114, 97, 102, 102, 105, 99] S.l), ar (dervL (twoL early) [99, 32, 97, 112, 32, 116, 114, 97, 102, 102, 105, 99] S.l), ar (dervL (twoL early) [115, 32, 97, 112, 32, 116, 114, 97, 102, 102, 105, 99] S.l)]) ∧
      ∃ (dn' : BitVec 32) (f' g' : Nat → BitVec 32), TabOk dn' f' g' ∧ hs = [svB S, scC 2 early 0 S, shaT dn' 0 f' g']) := by
  refine fn_of_body tds_ok follows_ Try.func46 rfl (t := .a (.c (.p 1 0 0)) :: anys (Try.f46.ntmps - 1)) rfl (fun w r0 hr _ => ?_)
  obtain ⟨x0, x1, x2, rfl⟩ := len3' hr
  (repeat first | (refine And.intro ?_ ?_; first | exact rfl | ((exact fun h => absurd h (by first | decide)); intro yy; clear yy) | (rotate_left; (exact fun h => absurd h (by first | decide)); intro yy; clear yy) | decide | omega) | (with_reducible refine frc_bytesL (by first | omega | decide) ?_) | (with_reducible refine frc_bytesM (by first | omega | decide) ?_))
  refine ⟨some [1], [9], [(0, true), (1, true), (2, true), (3, true), (4, true), (5, true), (6, true), (7, true), (8, false), (9, false)], [10], by kernel_rfl, ?_⟩
  (repeat first | (refine And.intro ?_ ?_; first | exact rfl | ((exact fun h => absurd h (by first | decide)); intro yy; clear yy) | (rotate_left; (exact fun h => absurd h (by first | decide)); intro yy; clear yy) | decide | omega) | (with_reducible refine frc_bytesL (by first | omega | decide) ?_) | (with_reducible refine frc_bytesM (by first | omega | decide) ?_))
  refine call_same (fn_kderive true 0 0 0 early [] [100, 101, 114, 105, 118, 101, 100] dn f g hd he (by decide) (Nat.le_refl _) (Nat.le_refl _) (fun _ => rfl)) [0, 2] rfl (by (repeat first | exact trivial | refine ent1 ?_)) (by refine eqSegs_nil ?_; (repeat first | exact trivial | refine ent1 ?_)) (fun _ _ => trivial) ?_
  rintro y hs' ⟨rfl, dn1, f1, g1, hd1, rfl⟩
  have l1 := derv_len early [100, 101, 114, 105, 118, 101, 100] []
  have r1 := fun (i : Nat) (hi : i < 32) => derv_row (s := early) (said := []) (lab := [100, 101, 114, 105, 118, 101, 100]) i hi
  generalize hD1 : dervL early [100, 101, 114, 105, 118, 101, 100] [] = D1 at l1 r1
  (repeat first | (refine And.intro ?_ ?_; first | exact rfl | ((exact fun h => absurd h (by first | decide)); intro yy; clear yy) | (rotate_left; (exact fun h => absurd h (by first | decide)); intro yy; clear yy) | decide | omega) | (with_reducible refine frc_bytesL (by first | omega | decide) ?_) | (with_reducible refine frc_bytesM (by first | omega | decide) ?_))
  refine ⟨some [1], [6], [(0, true), (1, true), (2, true), (3, true), (4, true), (5, false), (6, false)], [7], by kernel_rfl, ?_⟩
  (repeat first | (refine And.intro ?_ ?_; first | exact rfl | ((exact fun h => absurd h (by first | decide)); intro yy; clear yy) | (rotate_left; (exact fun h => absurd h (by first | decide)); intro yy; clear yy) | decide | omega) | (with_reducible refine frc_bytesL (by first | omega | decide) ?_) | (with_reducible refine frc_bytesM (by first | omega | decide) ?_))
  refine call_same (fn_extract false true 32 0 0 0 32 0 D1 [] dn1 f1 g1 hd1 (by omega) (by omega) (fun h => Bool.noConfusion h) (by decide) (by decide) (fun _ => rfl)) [4, 0, 2] rfl (by (repeat first | exact trivial | refine ent1 ?_); refine ⟨l1.symm, rfl, ?_⟩; (repeat first | exact trivial | refine ent1 ?_)) ?_ (fun _ _ => trivial) ?_
  · refine ⟨rfl, fun j hj => eqC_win0 (fun i hi => congrArg SC.w8 (r1 i (by omega))) j, ?_⟩
    refine eqSegs_nil (eqSegs_nil ?_)
    (repeat first | exact trivial | refine ent1 ?_)
  rintro y hs' ⟨rfl, rfl⟩
  have hO : markL D1 [] = oneL early := by unfold oneL; rw [hD1]
  have lO : (oneL early).length = 32 := by unfold oneL; exact markL_len _ _
  rw [hO]
  have hT : twoL early = markL (dervL (oneL early) [100, 101, 114, 105, 118, 101, 100] []) [] := rfl
  generalize oneL early = O at lO hT ⊢
  (repeat first | (refine And.intro ?_ ?_; first | exact rfl | ((exact fun h => absurd h (by first | decide)); intro yy; clear yy) | (rotate_left; (exact fun h => absurd h (by first | decide)); intro yy; clear yy) | decide | omega) | (with_reducible refine frc_bytesL (by first | omega | decide) ?_) | (with_reducible refine frc_bytesM (by first | omega | decide) ?_))
  refine ⟨some [1, 5], [], [(0, true), (1, true), (2, true), (3, true), (4, true), (5, false)], [6], by kernel_rfl, ?_⟩
  (repeat first | (refine And.intro ?_ ?_; first | exact rfl | ((exact fun h => absurd h (by first | decide)); intro yy; clear yy) | (rotate_left; (exact fun h => absurd h (by first | decide)); intro yy; clear yy) | decide | omega) | (with_reducible refine frc_bytesL (by first | omega | decide) ?_) | (with_reducible refine frc_bytesM (by first | omega | decide) ?_))
  refine call_same (fn_kderive true 0 0 0 O [] [100, 101, 114, 105, 118, 101, 100] 1#32 first steps (.inr ⟨rfl, rfl, rfl⟩) lO (by decide) (Nat.le_refl _) (Nat.le_refl _) (fun _ => rfl)) [0, 2] rfl (by (repeat first | exact trivial | refine ent1 ?_)) (by refine eqSegs_nil ?_; (repeat first | exact trivial | refine ent1 ?_)) (fun _ _ => trivial) ?_
  rintro y hs' ⟨rfl, dn2, f2, g2, hd2, rfl⟩
  have l2 := derv_len O [100, 101, 114, 105, 118, 101, 100] []
  have r2 := fun (i : Nat) (hi : i < 32) => derv_row (s := O) (said := []) (lab := [100, 101, 114, 105, 118, 101, 100]) i hi
  generalize hD2 : dervL O [100, 101, 114, 105, 118, 101, 100] [] = D2 at l2 r2 hT
  (repeat first | (refine And.intro ?_ ?_; first | exact rfl | ((exact fun h => absurd h (by first | decide)); intro yy; clear yy) | (rotate_left; (exact fun h => absurd h (by first | decide)); intro yy; clear yy) | decide | omega) | (with_reducible refine frc_bytesL (by first | omega | decide) ?_) | (with_reducible refine frc_bytesM (by first | omega | decide) ?_))
  refine ⟨some [1], [6], [(0, true), (1, true), (2, true), (3, true), (4, true), (5, false), (6, false)], [7], by kernel_rfl, ?_⟩
  (repeat first | (refine And.intro ?_ ?_; first | exact rfl | ((exact fun h => absurd h (by first | decide)); intro yy; clear yy) | (rotate_left; (exact fun h => absurd h (by first | decide)); intro yy; clear yy) | decide | omega) | (with_reducible refine frc_bytesL (by first | omega | decide) ?_) | (with_reducible refine frc_bytesM (by first | omega | decide) ?_))
  refine call_same (fn_extract false true 32 0 0 0 32 0 D2 [] dn2 f2 g2 hd2 (by omega) (by omega) (fun h => Bool.noConfusion h) (by decide) (by decide) (fun _ => rfl)) [4, 0, 2] rfl (by (repeat first | exact trivial | refine ent1 ?_); refine ⟨l2.symm, rfl, ?_⟩; (repeat first | exact trivial | refine ent1 ?_)) ?_ (fun _ _ => trivial) ?_
  · refine ⟨rfl, fun j hj => eqC_win0 (fun i hi => congrArg SC.w8 (r2 i (by omega))) j, ?_⟩
    refine eqSegs_nil (eqSegs_nil ?_)
    (repeat first | exact trivial | refine ent1 ?_)
  rintro y hs' ⟨rfl, rfl⟩
  rw [← hT]
  have lT : (twoL early).length = 32 := by rw [hT]; exact markL_len _ _
  generalize twoL early = T at lT ⊢
  (repeat first | (refine And.intro ?_ ?_; first | exact rfl | ((exact fun h => absurd h (by first | decide)); intro yy; clear yy) | (rotate_left; (exact fun h => absurd h (by first | decide)); intro yy; clear yy) | decide | omega) | (with_reducible refine frc_bytesL (by first | omega | decide) ?_) | (with_reducible refine frc_bytesM (by first | omega | decide) ?_))
  refine ⟨some [1, 5], [], [(0, true), (1, true), (2, true), (3, true), (4, true), (5, true), (6, true), (7, true), (8, true), (9, false), (10, true)], [11], by kernel_rfl, ?_⟩
  (repeat first | (refine And.intro ?_ ?_; first | exact rfl | ((exact fun h => absurd h (by first | decide)); intro yy; clear yy) | (rotate_left; (exact fun h => absurd h (by first | decide)); intro yy; clear yy) | decide | omega) | (with_reducible refine frc_bytesL (by first | omega | decide) ?_) | (with_reducible refine frc_bytesM (by first | omega | decide) ?_))
  refine call_same (fn_kderive S.z S.N S.o S.c O S.l [99, 32, 104, 115, 32, 116, 114, 97, 102, 102, 105, 99] 1#32 first steps (.inr ⟨rfl, rfl, rfl⟩) lO (by decide) hS.fit hS.cap hS.nil) [0, 2] rfl (by (repeat first | exact trivial | refine ent1 ?_)) (by refine eqC_bts ?_; (repeat first | exact trivial | refine ent1 ?_)) (fun _ _ => trivial) ?_
  rintro y hs' ⟨rfl, dn3, f3, g3, hd3, rfl⟩
  (repeat first | (refine And.intro ?_ ?_; first | exact rfl | ((exact fun h => absurd h (by first | decide)); intro yy; clear yy) | (rotate_left; (exact fun h => absurd h (by first | decide)); intro yy; clear yy) | decide | omega) | (with_reducible refine frc_bytesL (by first | omega | decide) ?_) | (with_reducible refine frc_bytesM (by first | omega | decide) ?_))
  refine ⟨some [1, 5], [], [(0, true), (1, true), (2, true), (3, true), (4, true), (5, true), (6, true), (7, true), (8, true), (9, false), (10, true)], [11], by kernel_rfl, ?_⟩
  (repeat first | (refine And.intro ?_ ?_; first | exact rfl | ((exact fun h => absurd h (by first | decide)); intro yy; clear yy) | (rotate_left; (exact fun h => absurd h (by first | decide)); intro yy; clear yy) | decide | omega) | (with_reducible refine frc_bytesL (by first | omega | decide) ?_) | (with_reducible refine frc_bytesM (by first | omega | decide) ?_))
  refine call_same (fn_kderive S.z S.N S.o S.c O S.l [115, 32, 104, 115, 32, 116, 114, 97, 102, 102, 105, 99] dn3 f3 g3 hd3 lO (by decide) hS.fit hS.cap hS.nil) [0, 2] rfl (by (repeat first | exact trivial | refine ent1 ?_)) (by refine eqC_bts ?_; (repeat first | exact trivial | refine ent1 ?_)) (fun _ _ => trivial) ?_
  rintro y hs' ⟨rfl, dn4, f4, g4, hd4, rfl⟩
  (repeat first | (refine And.intro ?_ ?_; first | exact rfl | ((exact fun h => absurd h (by first | decide)); intro yy; clear yy) | (rotate_left; (exact fun h => absurd h (by first | decide)); intro yy; clear yy) | decide | omega) | (with_reducible refine frc_bytesL (by first | omega | decide) ?_) | (with_reducible refine frc_bytesM (by first | omega | decide) ?_))
  refine ⟨some [1, 6], [], [(0, true), (1, true), (2, true), (3, true), (4, true), (5, true), (6, true), (7, true), (8, true), (9, false), (10, true)], [11], by kernel_rfl, ?_⟩
  (repeat first | (refine And.intro ?_ ?_; first | exact rfl | ((exact fun h => absurd h (by first | decide)); intro yy; clear yy) | (rotate_left; (exact fun h => absurd h (by first | decide)); intro yy; clear yy) | decide | omega) | (with_reducible refine frc_bytesL (by first | omega | decide) ?_) | (with_reducible refine frc_bytesM (by first | omega | decide) ?_))
  refine call_same (fn_kderive S.z S.N S.o S.c T S.l [99, 32, 97, 112, 32, 116, 114, 97, 102, 102, 105, 99] dn4 f4 g4 hd4 lT (by decide) hS.fit hS.cap hS.nil) [0, 2] rfl (by (repeat first | exact trivial | refine ent1 ?_)) (by refine eqC_bts ?_; (repeat first | exact trivial | refine ent1 ?_)) (fun _ _ => trivial) ?_
  rintro y hs' ⟨rfl, dn5, f5, g5, hd5, rfl⟩
  (repeat first | (refine And.intro ?_ ?_; first | exact rfl | ((exact fun h => absurd h (by first | decide)); intro yy; clear yy) | (rotate_left; (exact fun h => absurd h (by first | decide)); intro yy; clear yy) | decide | omega) | (with_reducible refine frc_bytesL (by first | omega | decide) ?_) | (with_reducible refine frc_bytesM (by first | omega | decide) ?_))
  refine ⟨some [1, 6], [], [(0, true), (1, true), (2, true), (3, true), (4, true), (5, true), (6, true), (7, true), (8, true), (9, false), (10, true)], [11], by kernel_rfl, ?_⟩
  (repeat first | (refine And.intro ?_ ?_; first | exact rfl | ((exact fun h => absurd h (by first | decide)); intro yy; clear yy) | (rotate_left; (exact fun h => absurd h (by first | decide)); intro yy; clear yy) | decide | omega) | (with_reducible refine frc_bytesL (by first | omega | decide) ?_) | (with_reducible refine frc_bytesM (by first | omega | decide) ?_))
  refine call_same (fn_kderive S.z S.N S.o S.c T S.l [115, 32, 97, 112, 32, 116, 114, 97, 102, 102, 105, 99] dn5 f5 g5 hd5 lT (by decide) hS.fit hS.cap hS.nil) [0, 2] rfl (by (repeat first | exact trivial | refine ent1 ?_)) (by refine eqC_bts ?_; (repeat first | exact trivial | refine ent1 ?_)) (fun _ _ => trivial) ?_
  rintro y hs' ⟨rfl, dn6, f6, g6, hd6, rfl⟩
  (repeat first | (refine And.intro ?_ ?_; first | exact rfl | ((exact fun h => absurd h (by first | decide)); intro yy; clear yy) | (rotate_left; (exact fun h => absurd h (by first | decide)); intro yy; clear yy) | decide | omega) | (with_reducible refine frc_bytesL (by first | omega | decide) ?_) | (with_reducible refine frc_bytesM (by first | omega | decide) ?_))
  (repeat first | refine And.intro (by omega) ?_ | refine And.intro (by decide) ?_ | (with_reducible refine frc_parts (by first | omega | decide) ?_) | (with_reducible refine frc_bytesL (by first | omega | decide) ?_) | refine And.intro rfl ?_)
  refine ⟨.a (.agg [ar (dervL O [99, 32, 104, 115, 32, 116, 114, 97, 102, 102, 105, 99] S.l), ar (dervL O [115, 32, 104, 115, 32, 116, 114, 97, 102, 102, 105, 99] S.l), ar (dervL T [99, 32, 97, 112, 32, 116, 114, 97, 102, 102, 105, 99] S.l), ar (dervL T [115, 32, 97, 112, 32, 116, 114, 97, 102, 102, 105, 99] S.l)]), _, ⟨[0, 1, 2], ⟨rfl, rfl, rfl⟩, ?_⟩, rfl, dn6, f6, g6, hd6, rfl⟩
  (repeat first | exact trivial | refine ent1 ?_)
  refine ⟨exF_row, ?_⟩
  (repeat first | exact trivial | refine ent1 ?_)
  refine ⟨exF_row, ?_⟩
  (repeat first | exact trivial | refine ent1 ?_)
  refine ⟨exF_row, ?_⟩
  (repeat first | exact trivial | refine ent1 ?_)
  refine ⟨exF_row, ?_⟩
  (repeat first | exact trivial | refine ent1 ?_)
  refine eqC_bts ?_
  (repeat first | exact trivial | refine ent1 ?_)
theorem upd_row {O m mk : Bs} {f g : Nat → SC} (hm : m.length = 32) (hk : mk.length = 32) (hf : ∀ i, i < (O ++ m).length → f i = .w8 (L (O ++ m) i)) (hg : ∀ j, j < 32 → g j = .w8 (L mk j)) (i : Nat) (hi : i < (O ++ mk).length) : updN f O.length 32 g i = .w8 (L (O ++ mk) i) := by
  rw [List.length_append, hk] at hi
  unfold updN
  by_cases h : i < O.length
  · rw [if_neg (by omega), hf i (by rw [List.length_append]; omega), L_app1 h, L_app1 h]
  · rw [if_pos (by omega), hg _ (by omega)]
    have : i = O.length + (i - O.length) := by omega
    rw [this, L_app2, Nat.add_sub_cancel_left]
set_option maxRecDepth 20000 in
set_option maxHeartbeats 8000000 in
theorem fn_hsay0 (x : Ms) (hx : x.Ok) (hE : errMs x = 0) (early : Bs) (he : early.length = 32) (dn : BitVec 32) (f g : Nat → BitVec 32) (hd : TabOk dn f g) :
    FnR Try.prog tds 43 1 [svB x.p.s, scN 2 early, shaT dn 0 f g] [.c (.p 1 0 0), .agg (msC 0 x)] (fun _ => True)
    (fun y hs => ∃ W c c', W = openMs x ++ hmarkL early x.k [] (openMs x) ∧ W.length ≤ c ∧ W.length ≤ c' ∧ y = .tup [.c (.sl 3 0 0 W.length c), .c (.int .i64 0)] ∧ hs = [svB x.p.s, scS 2 early 4 W.length c', shaT 1 0 first steps, lsC W c, lsC W c']) := by
  refine fn_of_body tds_ok follows_ Try.func43 rfl (t := .a (.c (.p 1 0 0)) :: .a (.agg (msC 0 x)) :: anys (Try.f43.ntmps - 2)) rfl (fun w r0 hr _ => ?_)
  obtain ⟨x0, x1, x2, rfl⟩ := len3' hr
  have e9 : decide ((0 : Int) ≠ 0) = false := by decide
  have hPl := putMs_len x
  have hbl := bodyMs_len hx hE
  have hop := open_put hx
  have hm32 := hx.m
  (repeat first | (refine And.intro ?_ ?_; first | exact rfl | ((exact fun h => absurd h (by first | decide)); intro yy; clear yy) | (rotate_left; (exact fun h => absurd h (by first | decide)); intro yy; clear yy) | decide | omega) | (with_reducible refine frc_bytesL (by first | omega | decide) ?_) | (with_reducible refine frc_bytesM (by first | omega | decide) ?_))
  refine call_same (fn_msputS x hx hE) [0] rfl (by (repeat first | exact trivial | refine ent1 ?_)) (by refine eqC_bts ?_; (repeat first | exact trivial | refine ent1 ?_)) (fun _ _ => trivial) ?_
  rintro y hs' ⟨c1, hc1, rfl, rfl⟩
  rw [← hop] at hPl hc1 ⊢
  generalize openMs x = O at hPl hc1 ⊢
  have hOl : (O ++ x.m).length = O.length + 32 := by rw [List.length_append, hm32]
  (repeat first | (refine And.intro ?_ ?_; first | exact rfl | ((exact fun h => absurd h (by first | decide | (rw [e9]; decide))); intro yy; clear yy) | (rotate_left; (exact fun h => absurd h (by first | decide | (rw [e9]; decide))); intro yy; clear yy) | decide | omega) | (with_reducible refine frc_bytesL (by first | omega | decide) ?_) | (with_reducible refine frc_bytesM (by first | omega | decide) ?_))
  have hOs : O.length ≤ 1000000 := by omega
  have oA : Sl.Ok ⟨false, c1, 0, c1, O⟩ := own_ok (by omega) hOs
  refine call_same (fn_hmark ⟨true, 0, 0, 0, []⟩ ⟨false, c1, 0, c1, O⟩ nil_ok oA early he x.k dn f g hd) [0, 4, 1, 2] rfl (by (repeat first | exact trivial | refine ent1 ?_); refine ⟨by show (if c1 = 0 then 0 else 0 + 0 * 1) = 0; split <;> rfl, by show ((((O ++ x.m).length : Nat) : Int) - 32).toNat - 0 = O.length; rw [hOl]; omega, Nat.sub_zero _, ?_⟩; (repeat first | exact trivial | refine ent1 ?_)) ?_ (fun _ _ => trivial) ?_
  · refine eqSegs_nil ?_
    refine ⟨rfl, fun j hj => eqC_win0 (f := fun j => SC.mp (bk 4 [0]) (bytesF (O ++ x.m).length (L (O ++ x.m)) j)) (n := O.length) (b := L O) (fun i hi => ?_) j, ?_⟩
    · have hi : i < O.length := hi
      show SC.mp _ (bytesF _ _ i) = .w8 (L O i)
      rw [bytesF_lt (by omega), L_app1 hi]
      rfl
    (repeat first | exact trivial | refine ent1 ?_)
  rintro y hs' ⟨rfl, rfl⟩
  rw [show Sl.l ⟨true, 0, 0, 0, []⟩ = [] from rfl, show Sl.l ⟨false, c1, 0, c1, O⟩ = O from rfl]
  have hmk := hmark_len early x.k [] O
  generalize hmarkL early x.k [] O = mk at hmk ⊢
  (repeat first | (refine And.intro ?_ ?_; first | exact rfl | ((exact fun h => absurd h (by first | decide | (rw [e9]; decide))); intro yy; clear yy) | (rotate_left; (exact fun h => absurd h (by first | decide | (rw [e9]; decide))); intro yy; clear yy) | decide | omega) | (with_reducible refine frc_bytesL (by first | omega | decide) ?_) | (with_reducible refine frc_bytesM (by first | omega | decide) ?_))
  refine ⟨none, [], [(0, true), (1, true), (2, true), (3, true), (4, true)], [5], by kernel_rfl, ?_⟩
  (repeat first | (refine And.intro ?_ ?_; first | exact rfl | ((exact fun h => absurd h (by first | decide | (rw [e9]; decide))); intro yy; clear yy) | (rotate_left; (exact fun h => absurd h (by first | decide | (rw [e9]; decide))); intro yy; clear yy) | decide | omega) | (with_reducible refine frc_bytesL (by first | omega | decide) ?_) | (with_reducible refine frc_bytesM (by first | omega | decide) ?_))
  have e1 : ((((O ++ x.m).length : Nat) : Int) - 32).toNat - 0 = O.length := by rw [hOl]; omega
  rw [e1]
  have e2 : (if c1 = ((O.length : Nat) : Int).toNat then 0 else 0 + ((O.length : Nat) : Int).toNat * 1) = O.length := by rw [if_neg (by omega)]; omega
  have e3 : min 32 ((((O ++ x.m).length : Nat) : Int).toNat - ((O.length : Nat) : Int).toNat) = 32 := by rw [hOl]; omega
  refine And.intro (show (if c1 = ((O.length : Nat) : Int).toNat then 0 else 0 + ((O.length : Nat) : Int).toNat * 1) + min 32 ((((O ++ x.m).length : Nat) : Int).toNat - ((O.length : Nat) : Int).toNat) ≤ c1 by rw [e2, e3]; omega) ?_
  (repeat first | (refine And.intro ?_ ?_; first | exact rfl | ((exact fun h => absurd h (by first | decide | (rw [e9]; decide))); intro yy; clear yy) | (rotate_left; (exact fun h => absurd h (by first | decide | (rw [e9]; decide))); intro yy; clear yy) | decide | omega) | (with_reducible refine frc_bytesL (by first | omega | decide) ?_) | (with_reducible refine frc_bytesM (by first | omega | decide) ?_))
  refine ⟨by show 0 + (O ++ x.m).length ≤ c1; omega, ⟨rfl, rfl⟩, by show (O ++ x.m).length * 1 ≤ 140737488355328; omega, fun hm0 => absurd hm0 (by rw [hOl]; omega), fun hm0 c2 hc2 => ?_⟩
  have hWl : (O ++ mk).length = (O ++ x.m).length := by rw [hOl, List.length_append, hmk]
  (repeat first | (refine And.intro ?_ ?_; first | exact rfl | ((exact fun h => absurd h (by first | decide | (rw [e9]; decide))); intro yy; clear yy) | (rotate_left; (exact fun h => absurd h (by first | decide | (rw [e9]; decide))); intro yy; clear yy) | decide | omega) | (with_reducible refine frc_bytesL (by first | omega | decide) ?_) | (with_reducible refine frc_bytesM (by first | omega | decide) ?_))
  (repeat first | refine And.intro (by omega) ?_ | refine And.intro (by decide) ?_ | (with_reducible refine frc_parts (by first | omega | decide) ?_) | (with_reducible refine frc_bytesL (by first | omega | decide) ?_) | refine And.intro rfl ?_)
  refine ⟨.tup [.c (.sl 3 0 0 (O ++ mk).length c1), .c (.int .i64 0)], _, ⟨[0, 1, 2, 4, 6], ⟨rfl, rfl, rfl⟩, ?_⟩, O ++ mk, c1, c2, rfl, by omega, by rw [hWl]; exact hc2, rfl, rfl⟩
  (repeat first | exact trivial | refine ent1 ?_)
  refine eqC_bts ?_
  (repeat first | exact trivial | refine ent1 ?_)
  have hU : ∀ i, i < (O ++ mk).length → updN (fun j => SC.mp (bk 4 [0]) (bytesF (O ++ x.m).length (L (O ++ x.m)) j)) (if c1 = ((O.length : Nat) : Int).toNat then 0 else 0 + ((O.length : Nat) : Int).toNat * 1) (min 32 ((((O ++ x.m).length : Nat) : Int).toNat - ((O.length : Nat) : Int).toNat)) (fun q => (fun j => SC.mp (bk 5 [0, 4, 1, 2]) ((fun i => SC.w8 (L mk i)) j)) (q + 0)) i = .w8 (L (O ++ mk) i) := by
    intro i hi
    rw [e2, e3]
    exact upd_row hm32 hmk (fun i hi => mp_row i hi) (fun j hj => rfl) i hi
  refine ⟨fun j hj => eqC_bytes (fun i hi => hU i hi) j, ?_⟩
  (repeat first | exact trivial | refine ent1 ?_)
  refine ⟨fun j hj => eqC_bytes (fun i hi => new_row (m := O ++ mk) (k := (O ++ x.m).length) (fun q hq => hU q (by rw [hWl]; exact hq)) i (by rw [← hWl]; exact hi)) j, ?_⟩
  (repeat first | exact trivial | refine ent1 ?_)
set_option maxRecDepth 20000 in
set_option maxHeartbeats 8000000 in
theorem fn_hhear0 (B : Sl) (hB : B.Ok) (x : Ms) (hx : x.Ok) (hE : errMs x = 0) (hbr : bare x) (early : Bs) (he : early.length = 32) (dn : BitVec 32) (f g : Nat → BitVec 32) (hd : TabOk dn f g) (hW : B.l = openMs x ++ hmarkL early x.k [] (openMs x)) :
    FnR Try.prog tds 45 1 [svB B, scN 2 early, shaT dn 0 f g] [.c (.p 1 0 0), .c (svC 0 B)] (fun _ => True)
    (fun y hs => ∃ (z : Ms) (c' : Nat), sameMs z ⟨x.k, x.r, x.p, hmarkL early x.k [] (openMs x)⟩ ∧ z.p.s.Ok ∧ B.l.length ≤ c' ∧ y = .tup [.agg (msC 3 z), .c (.int .i64 0)] ∧ hs = [svB B, scS 2 early 4 B.l.length c', shaT 1 0 first steps, svB z.p.s, lsC B.l c']) := by
  refine fn_of_body tds_ok follows_ Try.func45 rfl (t := .a (.c (.p 1 0 0)) :: .a (.c (svC 0 B)) :: anys (Try.f45.ntmps - 2)) rfl (fun w r0 hr _ => ?_)
  obtain ⟨x0, x1, x2, rfl⟩ := len3' hr
  have e9 : decide ((0 : Int) ≠ 0) = false := by decide
  have hxm : Ms.Ok ⟨x.k, x.r, x.p, hmarkL early x.k [] (openMs x)⟩ := ⟨hx.r, hx.p, hmark_len _ _ _ _⟩
  have hWp : B.l = putMs ⟨x.k, x.r, x.p, hmarkL early x.k [] (openMs x)⟩ := by rw [hW]; exact open_put hxm
  (repeat first | (refine And.intro ?_ ?_; first | exact rfl | ((exact fun h => absurd h (by first | decide)); intro yy; clear yy) | (rotate_left; (exact fun h => absurd h (by first | decide)); intro yy; clear yy) | decide | omega) | (with_reducible refine frc_bytesL (by first | omega | decide) ?_) | (with_reducible refine frc_bytesM (by first | omega | decide) ?_))
  refine call_same (fn_mtake B hB) [0] rfl (by (repeat first | exact trivial | refine ent1 ?_)) (by refine eqC_bts ?_; (repeat first | exact trivial | refine ent1 ?_)) (fun _ _ => trivial) ?_
  rintro y hs' ⟨z, e, hz, hzo, rfl, rfl⟩
  rw [hWp] at hz
  obtain ⟨rfl, hs⟩ := take_putMs hxm hE hbr hz
  (repeat first | (refine And.intro ?_ ?_; first | exact rfl | ((exact fun h => absurd h (by first | decide | (rw [e9]; decide))); intro yy; clear yy) | (rotate_left; (exact fun h => absurd h (by first | decide | (rw [e9]; decide))); intro yy; clear yy) | decide | omega) | (with_reducible refine frc_bytesL (by first | omega | decide) ?_) | (with_reducible refine frc_bytesM (by first | omega | decide) ?_))
  have hz' : z.k = x.k := hs.1
  have hWl : B.l.length = (openMs x).length + 32 := by rw [hW, List.length_append, hmark_len]
  have hBf := hB.fit
  have hBc := hB.cap
  have hBs := hB.small
  have hcut : Sub B ⟨B.z, B.N, B.o, B.c, openMs x⟩ := ⟨id, fun _ => rfl, fun _ => ⟨Nat.le_refl _, by dsimp only; omega⟩, fun i hi => by
    have hi : i < (openMs x).length := hi
    rw [Nat.sub_self, Nat.zero_add, hW, L_app1 hi]⟩
  have oC : Sl.Ok ⟨B.z, B.N, B.o, B.c, openMs x⟩ := ⟨by dsimp only; omega, by dsimp only; omega, fun h => by have := hB.nil h; rw [this] at hWl; simp at hWl, by dsimp only; omega⟩
  have hmk := hmark_len early x.k [] (openMs x)
  have hzm : z.m = hmarkL early x.k [] (openMs x) := hs.2.2.2
  refine ⟨some [5], [], [(0, true), (1, true), (2, true), (3, true), (4, true), (5, true), (6, true), (7, true), (9, true), (10, true), (8, false), (11, true)], [], by kernel_rfl, ?_⟩
  (repeat first | (refine And.intro ?_ ?_; first | exact rfl | ((exact fun h => absurd h (by first | decide | (rw [e9]; decide))); intro yy; clear yy) | (rotate_left; (exact fun h => absurd h (by first | decide | (rw [e9]; decide))); intro yy; clear yy) | decide | omega) | (with_reducible refine frc_bytesL (by first | omega | decide) ?_) | (with_reducible refine frc_bytesM (by first | omega | decide) ?_))
  refine call_same (fn_hmark ⟨true, 0, 0, 0, []⟩ ⟨B.z, B.N, B.o, B.c, openMs x⟩ nil_ok oC early he z.k dn f g hd) [3, 0, 1, 2] rfl (by (repeat first | exact trivial | refine ent1 ?_); refine ⟨by show (if B.c = 0 then B.o else B.o + 0 * 1) = B.o; split <;> rfl, by show ((B.l.length : Int) - 32).toNat - 0 = (openMs x).length; rw [hWl]; omega, Nat.sub_zero _, ?_⟩; (repeat first | exact trivial | refine ent1 ?_)) ?_ (fun _ _ => trivial) ?_
  · refine eqSegs_nil ?_
    refine hcut.ent ?_
    (repeat first | exact trivial | refine ent1 ?_)
  rintro y hs' ⟨rfl, rfl⟩
  rw [show Sl.l ⟨true, 0, 0, 0, []⟩ = [] from rfl, show Sl.l ⟨B.z, B.N, B.o, B.c, openMs x⟩ = openMs x from rfl, hz']
  generalize hmarkL early x.k [] (openMs x) = mk at hmk hzm hs hxm hWp hW ⊢
  (repeat first | (refine And.intro ?_ ?_; first | exact rfl | ((exact fun h => absurd h (by first | decide | (rw [e9]; decide))); intro yy; clear yy) | (rotate_left; (exact fun h => absurd h (by first | decide | (rw [e9]; decide))); intro yy; clear yy) | decide | omega) | (with_reducible refine frc_bytesL (by first | omega | decide) ?_) | (with_reducible refine frc_bytesM (by first | omega | decide) ?_))
  refine ⟨⟨rfl, rfl, fun j hj => rfl, fun j hj => rfl⟩, fun b1 hb1 => ?_⟩
  have k3 : (!b1) = false := by rw [hb1.2 (fun j hj => by rw [hzm]; rfl)]; rfl
  (repeat first | (refine And.intro ?_ ?_; first | exact rfl | ((exact fun h => absurd h (by first | decide | (rw [e9]; decide) | (rw [k3]; decide))); intro yy; clear yy) | (rotate_left; (exact fun h => absurd h (by first | decide | (rw [e9]; decide) | (rw [k3]; decide))); intro yy; clear yy) | decide | omega) | (with_reducible refine frc_bytesL (by first | omega | decide) ?_) | (with_reducible refine frc_bytesM (by first | omega | decide) ?_))
  refine sn_bts rfl hB.fit (fun h => by rw [hB.nil h]; rfl) (fun g2 hg2 => ?_)
  refine ⟨⟨rfl, rfl⟩, by show B.l.length * 1 ≤ 140737488355328; omega, fun hm0 => absurd hm0 (by omega), fun hm0 c2 hc2 => ?_⟩
  (repeat first | (refine And.intro ?_ ?_; first | exact rfl | ((exact fun h => absurd h (by first | decide | (rw [e9]; decide) | (rw [k3]; decide))); intro yy; clear yy) | (rotate_left; (exact fun h => absurd h (by first | decide | (rw [e9]; decide) | (rw [k3]; decide))); intro yy; clear yy) | decide | omega) | (with_reducible refine frc_bytesL (by first | omega | decide) ?_) | (with_reducible refine frc_bytesM (by first | omega | decide) ?_))
  (repeat first | refine And.intro (by omega) ?_ | refine And.intro (by decide) ?_ | (with_reducible refine frc_parts (by first | omega | decide) ?_) | (with_reducible refine frc_bytesL (by first | omega | decide) ?_) | refine And.intro rfl ?_)
  refine ⟨.tup [.agg (msC 3 z), .c (.int .i64 0)], _, ⟨[0, 1, 2, 4, 6], ⟨rfl, rfl, rfl⟩, ?_⟩, z, c2, hs, hzo, hc2, rfl, rfl⟩
  (repeat first | exact trivial | refine ent1 ?_)
  refine ⟨hz'.symm, ?_⟩
  (repeat first | exact trivial | refine ent1 ?_)
  refine eqC_bts ?_
  (repeat first | exact trivial | refine ent1 ?_)
  refine eqC_btsM ?_
  (repeat first | exact trivial | refine ent1 ?_)
  refine ⟨fun j hj => eqC_bytes (fun i hi => new_row hg2 i hi) j, ?_⟩
  (repeat first | exact trivial | refine ent1 ?_)
end Sx
end Go.Proofs.Ytkjdkeolkigibaa
end

section
/-
  The fixed fact about a handshake. No condition.
-/
namespace Go.Proofs.Ytkjdkeolkigibaa
set_option linter.unusedVariables false
namespace Vi
open Sha Sx
theorem derv_mark (s : Bs) (lab : List UInt8) (said : Bs) : dervL s lab said = markL s (labT lab (sumL said) 32 ++ [1#8]) := by
  unfold dervL
  generalize labT lab (sumL said) 32 = A
  have h1 : exT s A 1 = markL s (A ++ [1#8]) := by
    show markL s ([] ++ A ++ [BitVec.ofNat 8 (0 + 1)]) = _
    rw [List.nil_append]
  refine tab_ext (markL_len _ _) fun i hi => ?_
  unfold exF
  rw [show i / 32 + 1 = 1 by omega]
  show L ([] ++ exT s A 1) i = _
  rw [List.nil_append, h1]
def keyA : Bs := [107#8, 101#8, 121#8]
def xA : Ms := ⟨20#8, zer32, pm0, zer32⟩
def vE : Bs := [5#8, 43#8, 145#8, 103#8, 228#8, 212#8, 123#8, 136#8, 101#8, 17#8, 130#8, 88#8, 56#8, 145#8, 35#8, 119#8, 99#8, 124#8, 67#8, 17#8, 123#8, 8#8, 144#8, 145#8, 26#8, 9#8, 17#8, 229#8, 206#8, 147#8, 186#8, 247#8]
def vS0 : Bs := [227#8, 176#8, 196#8, 66#8, 152#8, 252#8, 28#8, 20#8, 154#8, 251#8, 244#8, 200#8, 153#8, 111#8, 185#8, 36#8, 39#8, 174#8, 65#8, 228#8, 100#8, 155#8, 147#8, 76#8, 164#8, 149#8, 153#8, 27#8, 120#8, 82#8, 184#8, 85#8]
def vD1 : Bs := [130#8, 255#8, 91#8, 89#8, 210#8, 202#8, 21#8, 121#8, 40#8, 193#8, 250#8, 228#8, 163#8, 123#8, 182#8, 14#8, 212#8, 67#8, 144#8, 252#8, 252#8, 110#8, 226#8, 62#8, 240#8, 85#8, 102#8, 42#8, 254#8, 246#8, 54#8, 220#8]
def vO1 : Bs := [160#8, 252#8, 55#8, 244#8, 74#8, 100#8, 140#8, 44#8, 114#8, 61#8, 66#8, 101#8, 174#8, 202#8, 251#8, 48#8, 223#8, 170#8, 91#8, 242#8, 45#8, 171#8, 248#8, 155#8, 145#8, 82#8, 77#8, 125#8, 57#8, 110#8, 84#8, 48#8]
def vD2 : Bs := [38#8, 84#8, 187#8, 0#8, 239#8, 26#8, 24#8, 251#8, 198#8, 158#8, 14#8, 147#8, 145#8, 85#8, 159#8, 85#8, 52#8, 242#8, 100#8, 240#8, 195#8, 51#8, 127#8, 209#8, 107#8, 110#8, 20#8, 236#8, 57#8, 215#8, 148#8, 155#8]
def vT : Bs := [93#8, 156#8, 192#8, 241#8, 75#8, 35#8, 241#8, 199#8, 249#8, 184#8, 251#8, 218#8, 225#8, 177#8, 186#8, 148#8, 211#8, 80#8, 35#8, 18#8, 152#8, 248#8, 203#8, 37#8, 80#8, 94#8, 229#8, 208#8, 46#8, 119#8, 64#8, 167#8]
def vKc : Bs := [53#8, 98#8, 11#8, 142#8, 75#8, 202#8, 162#8, 232#8, 60#8, 167#8, 61#8, 46#8, 60#8, 201#8, 112#8, 6#8, 82#8, 4#8, 13#8, 92#8, 34#8, 149#8, 203#8, 114#8, 164#8, 104#8, 28#8, 95#8, 5#8, 212#8, 252#8, 188#8]
def vmk : Bs := [40#8, 98#8, 143#8, 29#8, 21#8, 149#8, 250#8, 163#8, 182#8, 174#8, 178#8, 251#8, 169#8, 91#8, 138#8, 69#8, 38#8, 195#8, 204#8, 244#8, 114#8, 41#8, 2#8, 172#8, 65#8, 99#8, 221#8, 235#8, 172#8, 181#8, 27#8, 187#8]
def vSW : Bs := [210#8, 113#8, 88#8, 150#8, 158#8, 18#8, 113#8, 167#8, 69#8, 13#8, 146#8, 194#8, 193#8, 120#8, 122#8, 134#8, 103#8, 137#8, 108#8, 76#8, 186#8, 160#8, 81#8, 97#8, 94#8, 75#8, 39#8, 144#8, 206#8, 248#8, 174#8, 178#8]
def vV : Bs := [91#8, 59#8, 162#8, 130#8, 205#8, 219#8, 219#8, 149#8, 61#8, 205#8, 61#8, 104#8, 110#8, 81#8, 29#8, 129#8, 188#8, 44#8, 179#8, 31#8, 152#8, 107#8, 215#8, 163#8, 136#8, 9#8, 39#8, 165#8, 9#8, 210#8, 115#8, 197#8]
theorem kE : markL zer32 keyA = vE := of_decide_eq_true (mark_by (p := fun l => decide (l = vE)) (by decide +kernel))
theorem kS0 : sumL [] = vS0 := of_decide_eq_true (sum_by (p := fun l => decide (l = vS0)) (by decide +kernel))
theorem kD1 : markL vE (labT [100, 101, 114, 105, 118, 101, 100] vS0 32 ++ [1#8]) = vD1 := of_decide_eq_true (mark_by (p := fun l => decide (l = vD1)) (by decide +kernel))
theorem kO1 : markL vD1 [] = vO1 := of_decide_eq_true (mark_by (p := fun l => decide (l = vO1)) (by decide +kernel))
theorem kD2 : markL vO1 (labT [100, 101, 114, 105, 118, 101, 100] vS0 32 ++ [1#8]) = vD2 := of_decide_eq_true (mark_by (p := fun l => decide (l = vD2)) (by decide +kernel))
theorem kT : markL vD2 [] = vT := of_decide_eq_true (mark_by (p := fun l => decide (l = vT)) (by decide +kernel))
theorem kKc : markL vE (labT [99, 32, 102, 105, 110, 105, 115, 104, 101, 100] vS0 32 ++ [1#8]) = vKc := of_decide_eq_true (mark_by (p := fun l => decide (l = vKc)) (by decide +kernel))
theorem kmk : markL vKc ([] ++ [20#8, 0#8, 0#8, 32#8]) = vmk := of_decide_eq_true (mark_by (p := fun l => decide (l = vmk)) (by decide +kernel))
theorem kSW : sumL ([20#8, 0#8, 0#8, 32#8] ++ vmk) = vSW := of_decide_eq_true (sum_by (p := fun l => decide (l = vSW)) (by decide +kernel))
theorem kV : markL vT (labT [99, 32, 97, 112, 32, 116, 114, 97, 102, 102, 105, 99] vSW 32 ++ [1#8]) = vV := of_decide_eq_true (mark_by (p := fun l => decide (l = vV)) (by decide +kernel))
theorem openA : openMs xA = [20#8, 0#8, 0#8, 32#8] := rfl
theorem awakeV : L (dervL (twoL (earlyL keyA)) [99, 32, 97, 112, 32, 116, 114, 97, 102, 102, 105, 99] (openMs xA ++ hmarkL (earlyL keyA) 20#8 [] (openMs xA))) 0 ≠ 0#8 := by
  have e1 : hmarkL (earlyL keyA) 20#8 [] (openMs xA) = vmk := by
    unfold hmarkL earlyL
    rw [kE, show labM 20#8 = [99, 32, 102, 105, 110, 105, 115, 104, 101, 100] from rfl, derv_mark, kS0, kKc, openA, kmk]
  have e2 : twoL (earlyL keyA) = vT := by
    unfold twoL oneL earlyL
    rw [kE, derv_mark vE, kS0, kD1, kO1, derv_mark vO1, kS0, kD2, kT]
  rw [e1, e2, openA, derv_mark, kSW, kV]
  decide
end Vi
namespace Sx
open Sha Vi
theorem nthC_app : ∀ {l m : List SC} {i : Nat}, nthC (l ++ m) (l.length + i) = nthC m i
  | [], m, i => by rw [List.nil_append, List.length_nil, Nat.zero_add]
  | x :: l, m, i => by
    rw [List.cons_append, List.length_cons, show l.length + 1 + i = (l.length + i) + 1 by omega]
    exact nthC_app (l := l)
theorem nthC_app1 : ∀ {l m : List SC} {i : Nat}, i < l.length → nthC (l ++ m) i = nthC l i
  | [], m, i, h => absurd h (by simp)
  | x :: l, m, 0, h => rfl
  | x :: l, m, i + 1, h => nthC_app1 (l := l) (by simpa using h)
theorem nthC_map {f : Nat → SC} {n j : Nat} (h : j < n) : nthC ((List.range n).map f) j = f j := by
  have e : ∀ {l : List SC} {i : Nat} {x : SC}, l[i]? = some x → nthC l i = x := by
    intro l
    induction l with
    | nil => intro i x h; simp at h
    | cons y l ih =>
      intro i x h
      cases i with
      | zero => simp at h; exact h
      | succ i => exact ih (by simpa using h)
  exact e (by simp [h])
theorem four_cell {a b c d : Nat → SC} (j : Nat) (hj : j < 32) : nthC (flat [.row 32 a, .row 32 b, .row 32 c, .row 32 d]) (0 + j) = a j ∧ nthC (flat [.row 32 a, .row 32 b, .row 32 c, .row 32 d]) (32 + j) = b j ∧
    nthC (flat [.row 32 a, .row 32 b, .row 32 c, .row 32 d]) (64 + j) = c j ∧ nthC (flat [.row 32 a, .row 32 b, .row 32 c, .row 32 d]) (96 + j) = d j := by
  have e : flat [.row 32 a, .row 32 b, .row 32 c, .row 32 d] = (List.range 32).map a ++ ((List.range 32).map b ++ ((List.range 32).map c ++ ((List.range 32).map d ++ []))) := rfl
  rw [e]
  have hl : ∀ f : Nat → SC, ((List.range 32).map f).length = 32 := fun f => by simp
  have sk : ∀ (f : Nat → SC) (m : List SC) (i : Nat), nthC ((List.range 32).map f ++ m) (32 + i) = nthC m i := fun f m i => by
    have := nthC_app (l := (List.range 32).map f) (m := m) (i := i)
    rwa [hl] at this
  have at_ : ∀ (f : Nat → SC) (m : List SC) (i : Nat), i < 32 → nthC ((List.range 32).map f ++ m) i = f i := fun f m i hi => by
    rw [nthC_app1 (by rw [hl]; exact hi), nthC_map hi]
  refine ⟨?_, ?_, ?_, ?_⟩
  · rw [Nat.zero_add, at_ _ _ _ hj]
  · rw [sk, at_ _ _ _ hj]
  · rw [show 64 + j = 32 + (32 + j) by omega, sk, sk, at_ _ _ _ hj]
  · rw [show 96 + j = 32 + (32 + (32 + j)) by omega, sk, sk, sk, at_ _ _ _ hj]
theorem sec_ok {a b c d : Bs} {g g' : Nat → Nat} (j : Nat) (hj : j < 32) :
    (∀ o : Nat, o = 0 ∨ o = 32 ∨ o = 64 ∨ o = 96 → isNum .u8 (nthC (flat [.row 32 fun j => SC.mp g (.w8 (L a j)), .row 32 fun j => SC.mp g (.w8 (L b j)), .row 32 fun j => SC.mp g (.w8 (L c j)), .row 32 fun j => SC.mp g (.w8 (L d j))]) (o + j)) = true ∧
      nthC (flat [.row 32 fun j => SC.mp g (.w8 (L a j)), .row 32 fun j => SC.mp g (.w8 (L b j)), .row 32 fun j => SC.mp g (.w8 (L c j)), .row 32 fun j => SC.mp g (.w8 (L d j))]) (o + j) =
      nthC (flat [.row 32 fun j => SC.mp g' (.w8 (L a j)), .row 32 fun j => SC.mp g' (.w8 (L b j)), .row 32 fun j => SC.mp g' (.w8 (L c j)), .row 32 fun j => SC.mp g' (.w8 (L d j))]) (o + j)) := by
  intro o ho
  obtain ⟨a1, a2, a3, a4⟩ := four_cell (a := fun j => SC.mp g (.w8 (L a j))) (b := fun j => SC.mp g (.w8 (L b j))) (c := fun j => SC.mp g (.w8 (L c j))) (d := fun j => SC.mp g (.w8 (L d j))) j hj
  obtain ⟨b1, b2, b3, b4⟩ := four_cell (a := fun j => SC.mp g' (.w8 (L a j))) (b := fun j => SC.mp g' (.w8 (L b j))) (c := fun j => SC.mp g' (.w8 (L c j))) (d := fun j => SC.mp g' (.w8 (L d j))) j hj
  rcases ho with rfl | rfl | rfl | rfl
  · rw [a1, b1]; exact ⟨rfl, rfl⟩
  · rw [a2, b2]; exact ⟨rfl, rfl⟩
  · rw [a3, b3]; exact ⟨rfl, rfl⟩
  · rw [a4, b4]; exact ⟨rfl, rfl⟩
theorem xA_ok : xA.Ok := ⟨zer_len, nil_ok, zer_len⟩
theorem xA_err : errMs xA = 0 := rfl
theorem xA_bare : bare xA := fun _ => ⟨rfl, rfl, rfl, rfl, rfl, rfl, rfl, rfl, rfl, rfl, rfl⟩
set_option maxRecDepth 20000 in
set_option maxHeartbeats 16000000 in
theorem fn_awake13 : FnR Try.prog tds 34 1 [[]] [] (fun _ => True) (fun y hs => y = .a (.c (.bool true)) ∧ hs = [[]]) := by
  refine fn_of_body tds_ok follows_ Try.func34 rfl (t := anys Try.f34.ntmps) rfl (fun w r0 hr _ => ?_)
  obtain ⟨x0, rfl⟩ := List.length_eq_one_iff.1 hr
  (repeat first | (refine And.intro ?_ ?_; first | exact rfl | ((exact fun h => absurd h (by first | decide)); intro yy; clear yy) | (rotate_left; (exact fun h => absurd h (by first | decide)); intro yy; clear yy) | decide | omega) | (with_reducible refine frc_bytesL (by first | omega | decide) ?_) | (with_reducible refine frc_bytesM (by first | omega | decide) ?_))
  refine call_same fn_knew [] rfl (by (repeat first | exact trivial | refine ent1 ?_)) trivial (fun _ _ => trivial) ?_
  rintro y hs' ⟨rfl, rfl⟩
  have kok : Sl.Ok ⟨false, 3, 0, 3, keyA⟩ := own_ok (by decide) (by decide)
  have vA := awakeV
  have he := early_len keyA
  (repeat first | (refine And.intro ?_ ?_; first | exact rfl | ((exact fun h => absurd h (by first | decide)); intro yy; clear yy) | (rotate_left; (exact fun h => absurd h (by first | decide)); intro yy; clear yy) | decide | omega) | (with_reducible refine frc_bytesL (by first | omega | decide) ?_) | (with_reducible refine frc_bytesM (by first | omega | decide) ?_))
  refine call_same (fn_hnew ⟨false, 3, 0, 3, keyA⟩ kok 0#32 (fun _ => 0#32) (fun _ => 0#32) (.inl rfl)) [2, 1] rfl (by (repeat first | exact trivial | refine ent1 ?_)) ?_ (fun _ _ => trivial) ?_
  · refine ⟨rfl, fun j hj => eqC_lit keyA hj, ?_⟩
    (repeat first | exact trivial | refine ent1 ?_)
  rintro y hs' ⟨rfl, rfl⟩
  rw [show Sl.l ⟨false, 3, 0, 3, keyA⟩ = keyA from rfl]
  (repeat first | (refine And.intro ?_ ?_; first | exact rfl | ((exact fun h => absurd h (by first | decide)); intro yy; clear yy) | (rotate_left; (exact fun h => absurd h (by first | decide)); intro yy; clear yy) | decide | omega) | (with_reducible refine frc_bytesL (by first | omega | decide) ?_) | (with_reducible refine frc_bytesM (by first | omega | decide) ?_))
  refine call_same (fn_hnew ⟨false, 3, 0, 3, keyA⟩ kok 1#32 first steps (.inr ⟨rfl, rfl, rfl⟩)) [4, 1] rfl (by (repeat first | exact trivial | refine ent1 ?_)) ?_ (fun _ _ => trivial) ?_
  · refine ⟨rfl, fun j hj => eqC_lit keyA hj, ?_⟩
    (repeat first | exact trivial | refine ent1 ?_)
  rintro y hs' ⟨rfl, rfl⟩
  rw [show Sl.l ⟨false, 3, 0, 3, keyA⟩ = keyA from rfl]
  generalize earlyL keyA = E at vA he ⊢
  (repeat first | (refine And.intro ?_ ?_; first | exact rfl | ((exact fun h => absurd h (by first | decide)); intro yy; clear yy) | (rotate_left; (exact fun h => absurd h (by first | decide)); intro yy; clear yy) | decide | omega) | (with_reducible refine frc_bytesL (by first | omega | decide) ?_) | (with_reducible refine frc_bytesM (by first | omega | decide) ?_))
  refine call_same (fn_hsay0 xA xA_ok xA_err E he 1#32 first steps (.inr ⟨rfl, rfl, rfl⟩)) [0, 3, 1] rfl (by (repeat first | exact trivial | refine ent1 ?_); refine ⟨zrow, ?_⟩; (repeat first | exact trivial | refine ent1 ?_); refine ⟨zrow, ?_⟩; (repeat first | exact trivial | refine ent1 ?_)) (by refine eqSegs_nil ?_; (repeat first | exact trivial | refine ent1 ?_)) (fun _ _ => trivial) ?_
  rintro y hs' ⟨W, c, c', hW, hWc, hWc', rfl, rfl⟩
  have hWl : W.length = 36 := by rw [hW, List.length_append, hmark_len]; rfl
  rw [show hmarkL E xA.k [] (openMs xA) = hmarkL E 20#8 [] (openMs xA) from rfl] at hW
  rw [← hW] at vA
  have oW : Sl.Ok ⟨false, c, 0, c, W⟩ := own_ok hWc (by omega)
  have oW' : Sl.Ok ⟨false, c', 0, c', W⟩ := own_ok hWc' (by omega)
  (repeat first | (refine And.intro ?_ ?_; first | exact rfl | ((exact fun h => absurd h (by first | decide)); intro yy; clear yy) | (rotate_left; (exact fun h => absurd h (by first | decide)); intro yy; clear yy) | decide | omega) | (with_reducible refine frc_bytesL (by first | omega | decide) ?_) | (with_reducible refine frc_bytesM (by first | omega | decide) ?_))
  refine call_same (fn_hhear0 ⟨false, c, 0, c, W⟩ oW xA xA_ok xA_err xA_bare E he 1#32 first steps (.inr ⟨rfl, rfl, rfl⟩) hW) [6, 5, 1] rfl (by (repeat first | exact trivial | refine ent1 ?_)) ?_ (fun _ _ => trivial) ?_
  · refine ⟨rfl, fun j hj => eqC_winBM (Nat.le_refl _), ?_⟩
    (repeat first | exact trivial | refine ent1 ?_)
  rintro y hs' ⟨z, c2, hz, hzo, hWc2, rfl, rfl⟩
  have oW2 : Sl.Ok ⟨false, c2, 0, c2, W⟩ := own_ok hWc2 (by omega)
  clear hz hW
  have e9 : decide ((0 : Int) = 0) = true := by decide
  have e1 : decide ((30 : Int) < (W.length : Int)) = true := decide_eq_true (by omega)
  (repeat first | (refine And.intro ?_ ?_; first | exact rfl | ((exact fun h => absurd h (by first | decide | (rw [e9]; decide) | (rw [e1]; decide))); intro yy; clear yy) | (rotate_left; (exact fun h => absurd h (by first | decide | (rw [e9]; decide) | (rw [e1]; decide))); intro yy; clear yy) | decide | omega) | (with_reducible refine frc_bytesL (by first | omega | decide) ?_) | (with_reducible refine frc_bytesM (by first | omega | decide) ?_))
  refine call_same (fn_hsecrets ⟨false, c', 0, c', W⟩ oW' E he 1#32 first steps (.inr ⟨rfl, rfl, rfl⟩)) [7, 3, 1] rfl (by (repeat first | exact trivial | refine ent1 ?_)) ?_ (fun _ _ => trivial) ?_
  · refine ⟨rfl, fun j hj => eqC_winBM (Nat.le_refl _), ?_⟩
    (repeat first | exact trivial | refine ent1 ?_)
  rintro y hs' ⟨rfl, dn1, f1, g1, hd1, rfl⟩
  rw [show Sl.l ⟨false, c', 0, c', W⟩ = W from rfl]
  (repeat first | (refine And.intro ?_ ?_; first | exact rfl | ((exact fun h => absurd h (by first | decide | (rw [e9]; decide) | (rw [e1]; decide))); intro yy; clear yy) | (rotate_left; (exact fun h => absurd h (by first | decide | (rw [e9]; decide) | (rw [e1]; decide))); intro yy; clear yy) | decide | omega) | (with_reducible refine frc_bytesL (by first | omega | decide) ?_) | (with_reducible refine frc_bytesM (by first | omega | decide) ?_))
  refine call_same (fn_hsecrets ⟨false, c2, 0, c2, W⟩ oW2 E he dn1 f1 g1 hd1) [9, 5, 1] rfl (by (repeat first | exact trivial | refine ent1 ?_)) ?_ (fun _ _ => trivial) ?_
  · refine ⟨rfl, fun j hj => eqC_winBM (Nat.le_refl _), ?_⟩
    (repeat first | exact trivial | refine ent1 ?_)
  rintro y hs' ⟨rfl, dn2, f2, g2, hd2, rfl⟩
  rw [show Sl.l ⟨false, c2, 0, c2, W⟩ = W from rfl]
  (repeat first | (refine And.intro ?_ ?_; first | exact rfl | ((exact fun h => absurd h (by first | decide | (rw [e9]; decide) | (rw [e1]; decide))); intro yy; clear yy) | (rotate_left; (exact fun h => absurd h (by first | decide | (rw [e9]; decide) | (rw [e1]; decide))); intro yy; clear yy) | decide | omega) | (with_reducible refine frc_bytesL (by first | omega | decide) ?_) | (with_reducible refine frc_bytesM (by first | omega | decide) ?_))
  refine And.intro ⟨Try.stoodInHeld94, Try.eqGuardType94, ⟨rfl, fun j hj => sec_ok j hj 0 (.inl rfl)⟩, ⟨rfl, fun j hj => sec_ok j hj 32 (.inr (.inl rfl))⟩, ⟨rfl, fun j hj => sec_ok j hj 64 (.inr (.inr (.inl rfl)))⟩, ⟨rfl, fun j hj => sec_ok j hj 96 (.inr (.inr (.inr rfl)))⟩, trivial⟩ ?_
  (repeat first | (refine And.intro ?_ ?_; first | exact rfl | ((exact fun h => absurd h (by first | decide | (rw [e9]; decide) | (rw [e1]; decide))); intro yy; clear yy) | (rotate_left; (exact fun h => absurd h (by first | decide | (rw [e9]; decide) | (rw [e1]; decide))); intro yy; clear yy) | decide | omega) | (with_reducible refine frc_bytesL (by first | omega | decide) ?_) | (with_reducible refine frc_bytesM (by first | omega | decide) ?_))
  refine call_same (fn_hsecrets ⟨false, c', 0, c', W⟩ oW' E he dn2 f2 g2 hd2) [7, 3, 1] rfl (by (repeat first | exact trivial | refine ent1 ?_)) ?_ (fun _ _ => trivial) ?_
  · refine ⟨rfl, fun j hj => eqC_winBM (Nat.le_refl _), ?_⟩
    (repeat first | exact trivial | refine ent1 ?_)
  rintro y hs' ⟨rfl, dn3, f3, g3, hd3, rfl⟩
  rw [show Sl.l ⟨false, c', 0, c', W⟩ = W from rfl]
  (repeat first | (refine And.intro ?_ ?_; first | exact rfl | ((exact fun h => absurd h (by first | decide | (rw [e9]; decide) | (rw [e1]; decide))); intro yy; clear yy) | (rotate_left; (exact fun h => absurd h (by first | decide | (rw [e9]; decide) | (rw [e1]; decide))); intro yy; clear yy) | decide | omega) | (with_reducible refine frc_bytesL (by first | omega | decide) ?_) | (with_reducible refine frc_bytesM (by first | omega | decide) ?_))
  refine ⟨⟨rfl, rfl, fun j hj => rfl, fun j hj => ?_⟩, fun b1 hb1 => ?_⟩
  · show isNum .u8 (nthC (List.replicate 32 (.w8 0)) j) = true
    rw [nthC_repl hj]
    rfl
  obtain rfl : b1 = false := by
    cases b1 with
    | false => rfl
    | true => exact absurd (SC.w8.inj (hb1.1 rfl 0 (by decide))) vA
  (repeat first | (refine And.intro ?_ ?_; first | exact rfl | ((exact fun h => absurd h (by first | decide | (rw [e9]; decide) | (rw [e1]; decide))); intro yy; clear yy) | (rotate_left; (exact fun h => absurd h (by first | decide | (rw [e9]; decide) | (rw [e1]; decide))); intro yy; clear yy) | decide | omega) | (with_reducible refine frc_bytesL (by first | omega | decide) ?_) | (with_reducible refine frc_bytesM (by first | omega | decide) ?_))
  refine ⟨.a (.c (.bool true)), _, ⟨[0], ⟨rfl, rfl, rfl⟩, ?_⟩, rfl, rfl⟩
  (repeat first | exact trivial | refine ent1 ?_)
end Sx
end Go.Proofs.Ytkjdkeolkigibaa
end
