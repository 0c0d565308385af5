/-
  Texts of this claim, part 9: GcmS, GcmV, GcmL. No condition of its own.
-/
import Derived.Test.YtndlhhhebijknaaG8
section
/-
  The document's Seal. No condition.
-/
namespace Go.Proofs.Ytndlhhhebijknaa
set_option linter.unusedVariables false
namespace Gcm
open Sha
theorem ctr_ref (nn : Nat → BitVec 8) (n : Nat) (hn : n < 65536) (i : Nat) (hi : i < 16) : L (tab 12 nn ++ [0#8, 0#8, BitVec.ofInt 8 ((n : Int) / 256), BitVec.ofInt 8 (n : Int)]) i = ctrB nn (BitVec.ofNat 32 n) i := by
  have hd : (n : Int) / 256 = ((n / 256 : Nat) : Int) := by omega
  rw [L_app, tab_len, hd, BitVec.ofInt_natCast, BitVec.ofInt_natCast]
  unfold ctrB
  by_cases h : i < 12
  · rw [if_pos h, if_pos h, L_tab h]
  · rw [if_neg h, if_neg h]
    have h4 : i = 12 ∨ i = 13 ∨ i = 14 ∨ i = 15 := by omega
    rcases h4 with rfl | rfl | rfl | rfl
    all_goals
      apply BitVec.eq_of_toNat_eq
      simp [L, Nat.shiftRight_eq_div_pow]
      try omega
end Gcm
namespace Sx
open Aes Gcm Sha

theorem fn_rturn' (key block : Nat → BitVec 8) (E : (Nat → BitVec 8) → Nat → BitVec 8) (hE : pTurn key = E) (cb ck cx db dk dx : Nat) (hb : 256 ≤ cb) (hk : 16 ≤ ck) (hx : 16 ≤ cx) :
    Fn Try.prog tds 57 [[.row cb (bytesF 256 boxes)], [.row ck (bytesF 16 key)], [.row cx (bytesF 16 block)]] [.c (.sl 0 0 0 256 db), .c (.sl 1 0 0 16 dk), .c (.sl 2 0 0 16 dx)] (fun _ => True)
      (fun x hs => ∃ c, x = .a (.c (.sl 3 0 0 16 c)) ∧ hs = [[.row cb (bytesF 256 boxes)], [.row ck (bytesF 16 key)], [.row cx (bytesF 16 block)], [.row c (bytesF 16 (E block))]] ∧ 16 ≤ c) := by
  have e : bytesF 16 (rTurnS boxes key block 10) = bytesF 16 (E block) := by
    funext j
    unfold bytesF
    split
    · rename_i h; rw [turn_eq boxes_at key block j h, ← hE]
    · rfl
  rw [← e]
  exact fn_rturnC boxes key block cb ck cx db dk dx hb hk hx
-- RSEAL
theorem long_hi (na nh i : Nat) (hi : i < 8) (hn : na ≤ 1000000) : BitVec.ofInt 8 ((na : Int) * 8 / 2 ^ (8 * (i : Int)).toNat) = byE (lenE na nh) (7 - i) := by
  have e1 : (8 * (i : Int)).toNat = 8 * i := by omega
  have e2 : (na : Int) * 8 / 2 ^ (8 * i) = ((na * 8 / 2 ^ (8 * i) : Nat) : Int) := by simp
  rw [e1, e2, BitVec.ofInt_natCast]
  unfold byE lenE
  rw [if_pos (by omega), hi_mk]
  apply BitVec.eq_of_toNat_eq
  simp only [BitVec.toNat_ofNat, BitVec.toNat_setWidth, BitVec.toNat_ushiftRight, BitVec.toNat_mul, Nat.shiftRight_eq_div_pow]
  rw [show 7 - (7 - i) = i by omega, Nat.mod_eq_of_lt (by omega : na < 2 ^ 64), Nat.mod_eq_of_lt (by omega : 8 < 2 ^ 64), Nat.mod_eq_of_lt (by omega : na * 8 < 2 ^ 64)]
theorem long_lo (na nh m : Nat) (hm : m = nh) (i : Nat) (hi : i < 8) (hn : nh ≤ 1000000) : BitVec.ofInt 8 ((m : Int) * 8 / 2 ^ (8 * (i : Int)).toNat) = byE (lenE na nh) (15 - i) := by
  subst hm
  have e1 : (8 * (i : Int)).toNat = 8 * i := by omega
  have e2 : (m : Int) * 8 / 2 ^ (8 * i) = ((m * 8 / 2 ^ (8 * i) : Nat) : Int) := by simp
  rw [e1, e2, BitVec.ofInt_natCast]
  unfold byE lenE
  rw [if_neg (by omega), lo_mk]
  apply BitVec.eq_of_toNat_eq
  simp only [BitVec.toNat_ofNat, BitVec.toNat_setWidth, BitVec.toNat_ushiftRight, BitVec.toNat_mul, Nat.shiftRight_eq_div_pow]
  rw [show 15 - (15 - i) = i by omega, Nat.mod_eq_of_lt (by omega : m < 2 ^ 64), Nat.mod_eq_of_lt (by omega : 8 < 2 ^ 64), Nat.mod_eq_of_lt (by omega : m * 8 < 2 ^ 64)]
theorem byE0 (i : Nat) : byE 0#128 i = 0#8 := by unfold byE; rw [hi0, lo0]; simp
theorem hL_nil (H e : E) {l : Bs} (h : l.length = 0) : hL H e l = e := by unfold hL; rw [h]; rfl
theorem frc_bytesM {n : Nat} {g : Nat → Nat} {b : Nat → BitVec 8} {j : Nat} {k : SC → Prop} (h : j < n) (hk : k (.w8 (b j))) : frcSC (SC.mp g (bytesF n b j)) k := by
  rw [bytesF_lt h]; exact hk
theorem boxes_ref' : (fun i => refBox (BitVec.ofNat 8 i)) = boxes := by
  funext i
  exact refBox_eq _
set_option maxRecDepth 20000 in
set_option maxHeartbeats 4000000 in
theorem fn_rgseal (za zh : Bool) (Na Nh oa oh na nh ca ch Nb Nk Nn cb ck cn : Nat) (a b S : Bs) (key : Nat → BitVec 8) (E : (Nat → BitVec 8) → Nat → BitVec 8) (hE : pTurn key = E) (H : Gcm.E) (hH : toE (E fun _ => 0#8) = H) (nn : Nat → BitVec 8) (hS : sealL E H nn a b = S)
    (hla : a.length = na) (hNa : oa + na ≤ Na) (hca : na ≤ ca) (hza : za = true → na = 0) (hna : na ≤ 1000000) (hlh : b.length = nh) (hNh : oh + nh ≤ Nh) (hch : nh ≤ ch) (hzh : zh = true → nh = 0) (hnh : nh ≤ 1000000)
    (hNb : 256 ≤ Nb) (hNk : 16 ≤ Nk) (hNn : 12 ≤ Nn) :
    FnR Try.prog tds 35 2 [bts za Na oa na (L a), bts zh Nh oh nh (L b), [.row Nb (bytesF 256 boxes)], [.row Nk (bytesF 16 key)], [.row Nn (bytesF 12 nn)]] [.c (.sl 2 0 0 256 cb), .c (.sl 3 0 0 16 ck), .c (.sl 4 0 0 12 cn), .c (.sn za 0 0 oa na ca), .c (.sn zh 1 0 oh nh ch)] (fun _ => True)
      (fun x hs => ∃ c, nh + 16 ≤ c ∧ x = .a (.c (.sl 5 0 0 (nh + 16) c)) ∧ hs = [bts za Na oa na (L a), bts zh Nh oh nh (L b), [.row Nb (bytesF 256 boxes)], [.row Nk (bytesF 16 key)], [.row Nn (bytesF 12 nn)], [.row c (bytesF (nh + 16) (L S))]]) := by
  refine fn_of_body tds_ok follows_ Try.func35 rfl (t := [.a (.c (.sl 2 0 0 256 cb)), .a (.c (.sl 3 0 0 16 ck)), .a (.c (.sl 4 0 0 12 cn)), .a (.c (.sn za 0 0 oa na ca)), .a (.c (.sn zh 1 0 oh nh ch)), .any, .any, .any, .any, .any, .any, .any, .any, .any, .any, .any, .any, .any, .any, .any, .any, .any, .any, .any, .any, .any, .any, .any, .any, .any, .any, .any, .any, .any, .any, .any, .any, .any, .any, .any, .any, .any, .any, .any, .any, .any, .any, .any, .any, .any, .any, .any, .any, .any, .any, .any, .any, .any, .any, .any, .any, .any, .any, .any, .any, .any, .any, .any, .any, .any, .any, .any, .any, .any, .any, .any, .any, .any, .any, .any, .any, .any, .any, .any, .any, .any, .any, .any, .any, .any, .any, .any, .any, .any, .any, .any, .any, .any, .any, .any, .any, .any, .any, .any, .any, .any, .any, .any, .any, .any, .any, .any, .any, .any, .any, .any, .any, .any, .any, .any, .any, .any, .any]) rfl (fun w r0 hr _ => ?_)
  obtain ⟨x0, x1, x2, x3, x4, rfl⟩ := len5' hr
  obtain ⟨C, hC⟩ : ∃ C, cryL E nn b = C := ⟨_, rfl⟩
  have hCl : C.length = nh := by rw [← hC, cryL_len, hlh]
  have hCs : ∀ i, i < nh → L b i ^^^ E (ctrB nn (BitVec.ofNat 32 (2 + i / 16))) (i % 16) = L C i := fun i hi => by
    rw [← hC]; unfold cryL; rw [hlh, L_tab hi]; rfl
  obtain ⟨h0, hh0⟩ : ∃ h0, (E fun _ => 0#8) = h0 := ⟨_, rfl⟩
  rw [hh0] at hH
  obtain ⟨e1, he1⟩ : ∃ e, hL H 0#128 a = e := ⟨_, rfl⟩
  obtain ⟨e2, he2⟩ : ∃ e, hL H e1 C = e := ⟨_, rfl⟩
  obtain ⟨G, hG⟩ : ∃ G, byE (lenE na nh) = G := ⟨_, rfl⟩
  obtain ⟨e3, he3⟩ : ∃ e, hL H e2 (tab 16 G) = e := ⟨_, rfl⟩
  have he3t : e3 = tagE H a C := by
    have hGL : toE G = lenE na nh := by rw [← hG, toE_byE]
    have hpt : toE (partB (tab 16 G) 0) = toE G := toE_congr fun i hi => by
      unfold partB
      rw [tab_len, if_pos (by omega), show 16 * 0 + i = i by omega, L_tab hi]
    have h1 : hL H e2 (tab 16 G) = mul (e2 ^^^ toE (partB (tab 16 G) 0)) H := by unfold hL; rw [tab_len]; rfl
    rw [← he3, h1, hpt, hGL]
    unfold tagE
    rw [he1, he2, hla, hCl]
  obtain ⟨Y, hY⟩ : ∃ Y, E (ctrB nn (BitVec.ofNat 32 1)) = Y := ⟨_, rfl⟩
  have hST : S = C ++ tab 16 (tagB E H nn a C) := by rw [← hS, sealL, hC]
  have hSC : ∀ i, i < nh → L C i = L S i := fun i hi => by rw [hST, L_app1 (by omega)]
  have hTs : ∀ i, i < 16 → byE e3 i ^^^ Y i = L S (nh + i) := fun i hi => by
    rw [hST, ← hCl, L_app2, L_tab hi, he3t, ← hY]; rfl
  have hz00 : toE (fun _ => 0#8) = 0#128 := by decide
  (repeat first | refine And.intro (by omega) ?_ | refine And.intro (by decide) ?_ | (with_reducible refine frc_parts (by first | omega | decide) ?_) | (with_reducible refine frc_bytesL (by first | omega | decide) ?_) | refine And.intro rfl ?_)
  refine call_same (fn_rturn' key (fun _ => 0#8) E hE Nb Nk 16 cb ck 16 hNb hNk (by omega)) [2, 3, 5] rfl (by (repeat first | exact trivial | refine ⟨rfl, ?_⟩ | refine ⟨fun _ _ => ⟨rfl, trivial⟩, ?_⟩ | refine ⟨fun _ _ => trivial, ?_⟩ | refine ⟨by omega, ?_⟩ | refine ⟨fun _ _ => eqC_winS, ?_⟩ | refine ⟨fun _ _ => eqC_winM, ?_⟩ | refine ⟨fun _ _ => eqC_winB, ?_⟩ | refine ⟨fun _ _ => eqC_selfB, ?_⟩ | refine ⟨fun _ _ => eqC_mpB, ?_⟩)) ?_ (fun _ _ => trivial) ?_
  · (repeat first | exact trivial | refine ⟨rfl, ?_⟩ | refine ⟨fun _ _ => ⟨rfl, trivial⟩, ?_⟩ | refine ⟨fun _ _ => trivial, ?_⟩ | refine ⟨by omega, ?_⟩ | refine ⟨fun _ _ => eqC_winS, ?_⟩ | refine ⟨fun _ _ => eqC_winM, ?_⟩ | refine ⟨fun _ _ => eqC_winB, ?_⟩ | refine ⟨fun _ _ => eqC_selfB, ?_⟩ | refine ⟨fun _ _ => eqC_mpB, ?_⟩)
    all_goals exact ⟨fun j hj => eqC_bytes (f := fun _ => SC.w8 0) (fun _ _ => rfl) j, trivial⟩
  rintro x hs ⟨c1, rfl, rfl, hc1⟩
  rw [hh0]
  (repeat first | refine And.intro (by omega) ?_ | refine And.intro (by decide) ?_ | (with_reducible refine frc_parts (by first | omega | decide) ?_) | (with_reducible refine frc_bytesL (by first | omega | decide) ?_) | refine And.intro rfl ?_)
  refine .inl ⟨Option (Nat × Nat), fun x => match x with
    | none => ⟨[.a (.c (.sl 2 0 0 256 cb)), .a (.c (.sl 3 0 0 16 ck)), .a (.c (.sl 4 0 0 12 cn)), .a (.c (.sn za 0 0 oa na ca)), .a (.c (.sn zh 1 0 oh nh ch)), .any, .any, .any, .any, .any, .any, .a (.c (.sl 5 0 0 16 c1)), .a (.c (.slc none 0 0)), .a (.c (.int .i64 (0))), .any, .any, .any, .any, .any, .any, .any, .any, .any, .any, .any, .any, .any, .any, .any, .any, .any, .any, .any, .any, .any, .any, .any, .any, .any, .any, .any, .any, .any, .any, .any, .any, .any, .any, .any, .any, .any, .any, .any, .any, .any, .any, .any, .any, .any, .any, .any, .any, .any, .any, .any, .any, .any, .any, .any, .any, .any, .any, .any, .any, .any, .any, .any, .any, .any, .any, .any, .any, .any, .any, .any, .any, .any, .any, .any, .any, .any, .any, .any, .any, .any, .any, .any, .any, .any, .any, .any, .any, .any, .any, .any, .any, .any, .any, .any, .any, .any, .any, .any, .any, .any, .any, .any, .any, .any, .any, .any, .any, .any], [bts za Na oa na (L a), bts zh Nh oh nh (L b), [.row Nb (bytesF 256 boxes)], [.row Nk (bytesF 16 key)], [.row Nn (bytesF 12 nn)], [.row c1 (bytesF 16 h0)]]⟩
    | some (k, c) => ⟨[.a (.c (.sl 2 0 0 256 cb)), .a (.c (.sl 3 0 0 16 ck)), .a (.c (.sl 4 0 0 12 cn)), .a (.c (.sn za 0 0 oa na ca)), .a (.c (.sn zh 1 0 oh nh ch)), .any, .any, .any, .any, .any, .any, .a (.c (.sl 5 0 0 16 c1)), .a (.c (.sl 6 0 0 k c)), .a (.c (.int .i64 (↑k))), .any, .any, .any, .any, .any, .any, .any, .any, .any, .any, .any, .any, .any, .any, .any, .any, .any, .any, .any, .any, .any, .any, .any, .any, .any, .any, .any, .any, .any, .any, .any, .any, .any, .any, .any, .any, .any, .any, .any, .any, .any, .any, .any, .any, .any, .any, .any, .any, .any, .any, .any, .any, .any, .any, .any, .any, .any, .any, .any, .any, .any, .any, .any, .any, .any, .any, .any, .any, .any, .any, .any, .any, .any, .any, .any, .any, .any, .any, .any, .any, .any, .any, .any, .any, .any, .any, .any, .any, .any, .any, .any, .any, .any, .any, .any, .any, .any, .any, .any, .any, .any, .any, .any, .any, .any, .any, .any, .any, .any], [bts za Na oa na (L a), bts zh Nh oh nh (L b), [.row Nb (bytesF 256 boxes)], [.row Nk (bytesF 16 key)], [.row Nn (bytesF 12 nn)], [.row c1 (bytesF 16 h0)], [.row c (bytesF k (L C))]]⟩,
    fun x => match x with
    | none => True
    | some (k, c) => 0 < k ∧ k ≤ nh ∧ k ≤ c, fun x => match x with
    | none => 9000000
    | some (k, _) => 8000000 - k, ⟨none, [0, 1, 2, 3, 4, 6], ⟨⟨rfl, rfl, rfl⟩, ?_⟩, trivial⟩, fun x => ?_⟩
  · (repeat first | exact trivial | refine ⟨rfl, ?_⟩ | refine ⟨fun _ _ => ⟨rfl, trivial⟩, ?_⟩ | refine ⟨fun _ _ => trivial, ?_⟩ | refine ⟨by omega, ?_⟩ | refine ⟨fun _ _ => eqC_winS, ?_⟩ | refine ⟨fun _ _ => eqC_winM, ?_⟩ | refine ⟨fun _ _ => eqC_winB, ?_⟩ | refine ⟨fun _ _ => eqC_selfB, ?_⟩ | refine ⟨fun _ _ => eqC_mpB, ?_⟩)
    refine eqC_bts (eqC_bts ?_)
    (repeat first | exact trivial | refine ⟨rfl, ?_⟩ | refine ⟨fun _ _ => ⟨rfl, trivial⟩, ?_⟩ | refine ⟨fun _ _ => trivial, ?_⟩ | refine ⟨by omega, ?_⟩ | refine ⟨fun _ _ => eqC_winS, ?_⟩ | refine ⟨fun _ _ => eqC_winM, ?_⟩ | refine ⟨fun _ _ => eqC_winB, ?_⟩ | refine ⟨fun _ _ => eqC_selfB, ?_⟩ | refine ⟨fun _ _ => eqC_mpB, ?_⟩)
  rcases x with _ | ⟨k, c⟩
  · intro _
    refine ⟨fun h => ?_, fun h => ?_⟩
    · have hlt : 0 < nh := by have : (0 : Int) < nh := of_decide_eq_true h; omega
      obtain rfl : zh = false := by cases zh; rfl; have := hzh rfl; omega
      (repeat first | refine And.intro (by omega) ?_ | refine And.intro (by decide) ?_ | (with_reducible refine frc_parts (by first | omega | decide) ?_) | (with_reducible refine frc_bytesL (by first | omega | decide) ?_) | refine And.intro rfl ?_)
      refine ⟨by simp only [scale]; omega, ⟨by decide, by decide, by decide⟩, fun d1 hd1 => ?_⟩
      have r1 : ∀ i, i < 0 + 12 → appF (nthC []) 0 (scale 0 (0 + 1)) (scale 12 (0 + 1)) (fun q => bytesF 12 nn (q + 0)) i = .w8 (L ([] ++ tab 12 nn) i) := app_row (n := 0) (k := 12) rfl (tab_len _ _) (fun i hi => absurd hi (by omega)) (fun i hi => by rw [L_tab hi]; exact bytesF_lt hi)
      rw [List.nil_append] at r1
      (repeat first | refine And.intro (by omega) ?_ | refine And.intro (by decide) ?_ | (with_reducible refine frc_parts (by first | omega | decide) ?_) | (with_reducible refine frc_bytesL (by first | omega | decide) ?_) | refine And.intro rfl ?_)
      refine ⟨⟨by omega, by simp only [scale]; omega, by decide⟩, fun d2 hd2 => ?_⟩
      have r2 := app_row (n := 0 + 12) (k := 4) (m := [0#8, 0#8, BitVec.ofInt 8 (((2 + 0 / 16 : Nat) : Int) / 256), BitVec.ofInt 8 ((2 + 0 / 16 : Nat) : Int)]) (g := nthC [.w8 0, .w8 0, .w8 (BitVec.ofInt 8 ((2 + 0 / 16) / 256)), .w8 (BitVec.ofInt 8 (2 + 0 / 16))]) (tab_len _ _) rfl r1 (fun i hi => by
        have e2 : (2 + 0 / 16 : Int) = ((2 + 0 / 16 : Nat) : Int) := by omega
        rw [e2]
        have : i = 0 ∨ i = 1 ∨ i = 2 ∨ i = 3 := by omega
        rcases this with rfl | rfl | rfl | rfl <;> rfl)
      have hd2' : 16 ≤ d2 := hd2
      obtain ⟨Y, hY⟩ : ∃ Y, E (ctrB nn (BitVec.ofNat 32 (2 + 0 / 16))) = Y := ⟨_, rfl⟩
      (repeat first | refine And.intro (by omega) ?_ | refine And.intro (by decide) ?_ | (with_reducible refine frc_parts (by first | omega | decide) ?_) | (with_reducible refine frc_bytesL (by first | omega | decide) ?_) | refine And.intro rfl ?_)
      refine call_same (fn_rturn' key (ctrB nn (BitVec.ofNat 32 (2 + 0 / 16))) E hE Nb Nk d2 cb ck d2 hNb hNk hd2') [2, 3, 9] rfl (by (repeat first | exact trivial | refine ⟨rfl, ?_⟩ | refine ⟨fun _ _ => ⟨rfl, trivial⟩, ?_⟩ | refine ⟨fun _ _ => trivial, ?_⟩ | refine ⟨by omega, ?_⟩ | refine ⟨fun _ _ => eqC_winS, ?_⟩ | refine ⟨fun _ _ => eqC_winM, ?_⟩ | refine ⟨fun _ _ => eqC_winB, ?_⟩ | refine ⟨fun _ _ => eqC_selfB, ?_⟩ | refine ⟨fun _ _ => eqC_mpB, ?_⟩)) ?_ (fun _ _ => trivial) ?_
      · (repeat first | exact trivial | refine ⟨rfl, ?_⟩ | refine ⟨fun _ _ => ⟨rfl, trivial⟩, ?_⟩ | refine ⟨fun _ _ => trivial, ?_⟩ | refine ⟨by omega, ?_⟩ | refine ⟨fun _ _ => eqC_winS, ?_⟩ | refine ⟨fun _ _ => eqC_winM, ?_⟩ | refine ⟨fun _ _ => eqC_winB, ?_⟩ | refine ⟨fun _ _ => eqC_selfB, ?_⟩ | refine ⟨fun _ _ => eqC_mpB, ?_⟩)
        refine ⟨fun j hj => eqC_bytes (fun i hi => ?_) j, trivial⟩
        refine (r2 i hi).trans (congrArg SC.w8 (ctr_ref nn (2 + 0 / 16) (by omega) i hi))
      rintro x hs ⟨c5, rfl, rfl, hc5⟩
      have hYc := hCs (0) hlt
      rw [hY] at hYc ⊢
      refine ⟨none, [], [(0, true), (1, true), (2, true), (3, true), (4, true), (5, true), (6, true), (7, true), (8, true), (9, true), (10, true), (11, false)], [12, 13], by kernel_rfl, ?_⟩
      (repeat first | refine And.intro (by omega) ?_ | refine And.intro (by decide) ?_ | (with_reducible refine frc_parts (by first | omega | decide) ?_) | (with_reducible refine frc_bytesL (by first | omega | decide) ?_) | refine And.intro rfl ?_)
      refine frc_win (i := 0) (by omega) ?_
      (repeat first | refine And.intro (by omega) ?_ | refine And.intro (by decide) ?_ | (with_reducible refine frc_parts (by first | omega | decide) ?_) | (with_reducible refine frc_bytesL (by first | omega | decide) ?_) | refine And.intro rfl ?_)

      refine fun _ c3 hc3 => ?_
      (repeat first | refine And.intro (by omega) ?_ | refine And.intro (by decide) ?_ | (with_reducible refine frc_parts (by first | omega | decide) ?_) | (with_reducible refine frc_bytesL (by first | omega | decide) ?_) | refine And.intro rfl ?_)
      refine ⟨some (0 + 1, c3), [0, 1, 2, 3, 4, 5, 12], ⟨⟨rfl, rfl, rfl⟩, ?_⟩, ⟨by omega, by omega, by simpa using hc3⟩, by first | omega | (dsimp only; omega)⟩
      (repeat first | exact trivial | refine ⟨rfl, ?_⟩ | refine ⟨fun _ _ => ⟨rfl, trivial⟩, ?_⟩ | refine ⟨fun _ _ => trivial, ?_⟩ | refine ⟨by omega, ?_⟩ | refine ⟨fun _ _ => eqC_winS, ?_⟩ | refine ⟨fun _ _ => eqC_winM, ?_⟩ | refine ⟨fun _ _ => eqC_winB, ?_⟩ | refine ⟨fun _ _ => eqC_selfB, ?_⟩ | refine ⟨fun _ _ => eqC_mpB, ?_⟩)
      refine eqC_bts ?_
      (repeat first | exact trivial | refine ⟨rfl, ?_⟩ | refine ⟨fun _ _ => ⟨rfl, trivial⟩, ?_⟩ | refine ⟨fun _ _ => trivial, ?_⟩ | refine ⟨by omega, ?_⟩ | refine ⟨fun _ _ => eqC_winS, ?_⟩ | refine ⟨fun _ _ => eqC_winM, ?_⟩ | refine ⟨fun _ _ => eqC_winB, ?_⟩ | refine ⟨fun _ _ => eqC_selfB, ?_⟩ | refine ⟨fun _ _ => eqC_mpB, ?_⟩)
      refine ⟨fun j hj => eqC_bytes (fun i hi => ?_) j, trivial⟩
      · obtain rfl : i = 0 := by omega
        show SC.w8 (L b 0 ^^^ Y 0) = _
        exact congrArg SC.w8 hYc
    · have hn0 : nh = 0 := by have : ¬ (0 : Int) < nh := of_decide_eq_false h; omega
      have hCl0 : C.length = 0 := hCl.trans hn0
      by_cases hna0 : na = 0
      · skip
        (repeat first | refine And.intro (by omega) ?_ | refine And.intro (by decide) ?_ | (with_reducible refine frc_parts (by first | omega | decide) ?_) | (with_reducible refine frc_bytesL (by first | omega | decide) ?_) | refine And.intro rfl ?_)
        refine call_same (fn_over za c1 16 Na oa na c1 16 ca h0 (fun _ => 0#8) H 0#128 e1 a hH hz00 he1 hc1 (by omega) hla hNa hca hza hna) [5, 6, 0] rfl (by (repeat first | exact trivial | refine ⟨rfl, ?_⟩ | refine ⟨fun _ _ => ⟨rfl, trivial⟩, ?_⟩ | refine ⟨fun _ _ => trivial, ?_⟩ | refine ⟨by omega, ?_⟩ | refine ⟨fun _ _ => eqC_winS, ?_⟩ | refine ⟨fun _ _ => eqC_winM, ?_⟩ | refine ⟨fun _ _ => eqC_winB, ?_⟩ | refine ⟨fun _ _ => eqC_selfB, ?_⟩ | refine ⟨fun _ _ => eqC_mpB, ?_⟩)) ?_ (fun _ _ => trivial) ?_
        · (repeat first | exact trivial | refine ⟨rfl, ?_⟩ | refine ⟨fun _ _ => ⟨rfl, trivial⟩, ?_⟩ | refine ⟨fun _ _ => trivial, ?_⟩ | refine ⟨by omega, ?_⟩ | refine ⟨fun _ _ => eqC_winS, ?_⟩ | refine ⟨fun _ _ => eqC_winM, ?_⟩ | refine ⟨fun _ _ => eqC_winB, ?_⟩ | refine ⟨fun _ _ => eqC_selfB, ?_⟩ | refine ⟨fun _ _ => eqC_mpB, ?_⟩)
          refine ⟨fun j hj => eqC_bytes (f := fun _ => SC.w8 0) (fun _ _ => rfl) j, ?_⟩
          refine eqC_bts ?_
          (repeat first | exact trivial | refine ⟨rfl, ?_⟩ | refine ⟨fun _ _ => ⟨rfl, trivial⟩, ?_⟩ | refine ⟨fun _ _ => trivial, ?_⟩ | refine ⟨by omega, ?_⟩ | refine ⟨fun _ _ => eqC_winS, ?_⟩ | refine ⟨fun _ _ => eqC_winM, ?_⟩ | refine ⟨fun _ _ => eqC_winB, ?_⟩ | refine ⟨fun _ _ => eqC_selfB, ?_⟩ | refine ⟨fun _ _ => eqC_mpB, ?_⟩)
        rintro x hs ⟨hx, _⟩
        obtain ⟨rfl, rfl⟩ := hx (by omega)
        have e10 : e1 = 0#128 := by rw [← he1]; exact hL_nil _ _ (by omega)
        have hz0 : toE (fun _ => 0#8) = e1 := by rw [e10]; exact hz00
        (repeat first | refine And.intro (by omega) ?_ | refine And.intro (by decide) ?_ | (with_reducible refine frc_parts (by first | omega | decide) ?_) | (with_reducible refine frc_bytesL (by first | omega | decide) ?_) | refine And.intro rfl ?_)
        refine call_same (fn_over true c1 16 0 0 0 c1 16 0 h0 (fun _ => 0#8) H e1 e2 C hH hz0 he2 hc1 (by omega) hCl0 (by omega) (by omega) (fun _ => rfl) (by omega)) [5, 6, 0] rfl (by (repeat first | exact trivial | refine ⟨rfl, ?_⟩ | refine ⟨fun _ _ => ⟨rfl, trivial⟩, ?_⟩ | refine ⟨fun _ _ => trivial, ?_⟩ | refine ⟨by omega, ?_⟩ | refine ⟨fun _ _ => eqC_winS, ?_⟩ | refine ⟨fun _ _ => eqC_winM, ?_⟩ | refine ⟨fun _ _ => eqC_winB, ?_⟩ | refine ⟨fun _ _ => eqC_selfB, ?_⟩ | refine ⟨fun _ _ => eqC_mpB, ?_⟩)) ?_ (fun _ _ => trivial) ?_
        · (repeat first | exact trivial | refine ⟨rfl, ?_⟩ | refine ⟨fun _ _ => ⟨rfl, trivial⟩, ?_⟩ | refine ⟨fun _ _ => trivial, ?_⟩ | refine ⟨by omega, ?_⟩ | refine ⟨fun _ _ => eqC_winS, ?_⟩ | refine ⟨fun _ _ => eqC_winM, ?_⟩ | refine ⟨fun _ _ => eqC_winB, ?_⟩ | refine ⟨fun _ _ => eqC_selfB, ?_⟩ | refine ⟨fun _ _ => eqC_mpB, ?_⟩)
          refine ⟨fun j hj => eqC_bytes (f := fun _ => SC.w8 0) (fun _ _ => rfl) j, eqSegs_nil (eqSegs_nil trivial)⟩
        rintro x hs ⟨hx, _⟩
        obtain ⟨rfl, rfl⟩ := hx rfl
        have e21 : e2 = e1 := by rw [← he2]; exact hL_nil _ _ hCl0
        (repeat first | refine And.intro (by omega) ?_ | refine And.intro (by decide) ?_ | (with_reducible refine frc_parts (by first | omega | decide) ?_) | (with_reducible refine frc_bytesL (by first | omega | decide) ?_) | refine And.intro rfl ?_)
        refine .inl ⟨Nat, fun i => ⟨[.a (.c (.sl 2 0 0 256 cb)), .a (.c (.sl 3 0 0 16 ck)), .a (.c (.sl 4 0 0 12 cn)), .a (.c (.sn za 0 0 oa na ca)), .any, .any, .any, .any, .any, .any, .any, .a (.c (.sl 5 0 0 16 c1)), .a (.c (.slc none 0 0)), .any, .any, .any, .a (.c (.sl 6 0 0 16 16)), .a (.c (.sl 7 0 0 16 16)), .a (.c (.int .i64 (↑i))), .any, .any, .any, .any, .any, .any, .any, .any, .any, .any, .any, .any, .any, .any, .any, .any, .any, .any, .any, .any, .any, .any, .any, .any, .any, .any, .any, .any, .any, .any, .any, .any, .any, .any, .any, .any, .any, .any, .any, .any, .any, .any, .any, .any, .any, .any, .any, .any, .any, .any, .any, .any, .any, .any, .any, .any, .any, .any, .any, .any, .any, .any, .any, .any, .any, .any, .any, .any, .any, .any, .any, .any, .any, .any, .any, .any, .any, .any, .any, .any, .any, .any, .any, .any, .any, .any, .any, .any, .any, .any, .any, .any, .any, .any, .any, .any, .any, .any, .any, .any, .any, .any, .any, .any], [bts za Na oa na (L a), bts zh Nh oh nh (L b), [.row Nb (bytesF 256 boxes)], [.row Nk (bytesF 16 key)], [.row Nn (bytesF 12 nn)], [.row c1 (bytesF 16 h0)], rowE e2, [.row 16 fun j => .w8 (if 7 - j % 8 < i then G j else 0#8)]]⟩, fun i => i ≤ 8, fun i => 8 - i, ⟨0, [0, 1, 2, 3, 4, 5, 6, 7], ⟨⟨rfl, rfl, rfl⟩, ?_⟩, by omega⟩, fun i hi => ⟨fun h => ?_, fun h => ?_⟩⟩
        · (repeat first | exact trivial | refine ⟨rfl, ?_⟩ | refine ⟨fun _ _ => ⟨rfl, trivial⟩, ?_⟩ | refine ⟨fun _ _ => trivial, ?_⟩ | refine ⟨by omega, ?_⟩ | refine ⟨fun _ _ => eqC_winS, ?_⟩ | refine ⟨fun _ _ => eqC_winM, ?_⟩ | refine ⟨fun _ _ => eqC_winB, ?_⟩ | refine ⟨fun _ _ => eqC_selfB, ?_⟩ | refine ⟨fun _ _ => eqC_mpB, ?_⟩)
          refine eqC_bts (eqC_bts ?_)
          (repeat first | exact trivial | refine ⟨rfl, ?_⟩ | refine ⟨fun _ _ => ⟨rfl, trivial⟩, ?_⟩ | refine ⟨fun _ _ => trivial, ?_⟩ | refine ⟨by omega, ?_⟩ | refine ⟨fun _ _ => eqC_winS, ?_⟩ | refine ⟨fun _ _ => eqC_winM, ?_⟩ | refine ⟨fun _ _ => eqC_winB, ?_⟩ | refine ⟨fun _ _ => eqC_selfB, ?_⟩ | refine ⟨fun _ _ => eqC_mpB, ?_⟩)
          refine ⟨fun j hj => eqC_w8 ?_, ?_⟩
          · rw [e21, e10, byE0]; rfl
          (repeat first | exact trivial | refine ⟨rfl, ?_⟩ | refine ⟨fun _ _ => ⟨rfl, trivial⟩, ?_⟩ | refine ⟨fun _ _ => trivial, ?_⟩ | refine ⟨by omega, ?_⟩ | refine ⟨fun _ _ => eqC_winS, ?_⟩ | refine ⟨fun _ _ => eqC_winM, ?_⟩ | refine ⟨fun _ _ => eqC_winB, ?_⟩ | refine ⟨fun _ _ => eqC_selfB, ?_⟩ | refine ⟨fun _ _ => eqC_mpB, ?_⟩)
        · have hlt : (i : Int) < 8 := of_decide_eq_true h
          have hi8 : i < 8 := by omega
          (repeat first | refine And.intro (by omega) ?_ | refine And.intro (by decide) ?_ | (with_reducible refine frc_parts (by first | omega | decide) ?_) | (with_reducible refine frc_bytesL (by first | omega | decide) ?_) | refine And.intro rfl ?_)
          refine ⟨i + 1, [0, 1, 2, 3, 4, 5, 6, 7], ⟨⟨rfl, rfl, rfl⟩, ?_⟩, by dsimp only; omega, by dsimp only; omega⟩
          (repeat first | exact trivial | refine ⟨rfl, ?_⟩ | refine ⟨fun _ _ => ⟨rfl, trivial⟩, ?_⟩ | refine ⟨fun _ _ => trivial, ?_⟩ | refine ⟨by omega, ?_⟩ | refine ⟨fun _ _ => eqC_winS, ?_⟩ | refine ⟨fun _ _ => eqC_winM, ?_⟩ | refine ⟨fun _ _ => eqC_winB, ?_⟩ | refine ⟨fun _ _ => eqC_selfB, ?_⟩ | refine ⟨fun _ _ => eqC_mpB, ?_⟩)
          refine eqC_bts (eqC_bts ?_)
          (repeat first | exact trivial | refine ⟨rfl, ?_⟩ | refine ⟨fun _ _ => ⟨rfl, trivial⟩, ?_⟩ | refine ⟨fun _ _ => trivial, ?_⟩ | refine ⟨by omega, ?_⟩ | refine ⟨fun _ _ => eqC_winS, ?_⟩ | refine ⟨fun _ _ => eqC_winM, ?_⟩ | refine ⟨fun _ _ => eqC_winB, ?_⟩ | refine ⟨fun _ _ => eqC_selfB, ?_⟩ | refine ⟨fun _ _ => eqC_mpB, ?_⟩)
          refine ⟨fun j hj => eqC_w8 ?_, trivial⟩
          have f1 : (7 - (i : Int)).toNat + 0 = 7 - i := by omega
          have f2 : (15 - (i : Int)).toNat + 0 = 15 - i := by omega
          have g1 := long_hi na nh i hi8 (by omega)
          have g2 := long_lo na nh 0 hn0.symm i hi8 (by omega)
          rw [hG] at g1 g2
          rw [f1, f2]
          unfold upd
          by_cases h1 : j = 15 - i
          · rw [if_pos h1, if_pos (by omega), h1, ← g2]
          rw [if_neg h1]
          by_cases h2 : j = 7 - i
          · rw [if_pos h2, if_pos (by omega), h2, ← g1]
          rw [if_neg h2]
          have : 7 - j % 8 < i ↔ 7 - j % 8 < i + 1 := by omega
          simp only [this]
        · obtain rfl : i = 8 := by have : ¬ (i : Int) < 8 := of_decide_eq_false h; have hi : i ≤ 8 := hi; omega
          (repeat first | refine And.intro (by omega) ?_ | refine And.intro (by decide) ?_ | (with_reducible refine frc_parts (by first | omega | decide) ?_) | (with_reducible refine frc_bytesL (by first | omega | decide) ?_) | refine And.intro rfl ?_)
          refine call_same (fn_over false c1 16 16 0 16 c1 16 16 h0 (byE e2) H e2 e3 (tab 16 G) hH (toE_byE _) he3 hc1 (by omega) (tab_len _ _) (by omega) (by omega) (fun h => Bool.noConfusion h) (by omega)) [5, 6, 7] rfl (by (repeat first | exact trivial | refine ⟨rfl, ?_⟩ | refine ⟨fun _ _ => ⟨rfl, trivial⟩, ?_⟩ | refine ⟨fun _ _ => trivial, ?_⟩ | refine ⟨by omega, ?_⟩ | refine ⟨fun _ _ => eqC_winS, ?_⟩ | refine ⟨fun _ _ => eqC_winM, ?_⟩ | refine ⟨fun _ _ => eqC_winB, ?_⟩ | refine ⟨fun _ _ => eqC_selfB, ?_⟩ | refine ⟨fun _ _ => eqC_mpB, ?_⟩)) ?_ (fun _ _ => trivial) ?_
          · (repeat first | exact trivial | refine ⟨rfl, ?_⟩ | refine ⟨fun _ _ => ⟨rfl, trivial⟩, ?_⟩ | refine ⟨fun _ _ => trivial, ?_⟩ | refine ⟨by omega, ?_⟩ | refine ⟨fun _ _ => eqC_winS, ?_⟩ | refine ⟨fun _ _ => eqC_winM, ?_⟩ | refine ⟨fun _ _ => eqC_winB, ?_⟩ | refine ⟨fun _ _ => eqC_selfB, ?_⟩ | refine ⟨fun _ _ => eqC_mpB, ?_⟩)
            refine ⟨fun j hj => eqC_bytes (f := fun j => SC.w8 (byE e2 j)) (fun _ _ => rfl) j, ?_⟩
            (repeat first | exact trivial | refine ⟨rfl, ?_⟩ | refine ⟨fun _ _ => ⟨rfl, trivial⟩, ?_⟩ | refine ⟨fun _ _ => trivial, ?_⟩ | refine ⟨by omega, ?_⟩ | refine ⟨fun _ _ => eqC_winS, ?_⟩ | refine ⟨fun _ _ => eqC_winM, ?_⟩ | refine ⟨fun _ _ => eqC_winB, ?_⟩ | refine ⟨fun _ _ => eqC_selfB, ?_⟩ | refine ⟨fun _ _ => eqC_mpB, ?_⟩)
            exact ⟨fun j hj => eqC_win8 (b := fun j => if 7 - j % 8 < 8 then G j else 0#8) (fun i hi => by rw [if_pos (by omega), L_tab hi]) j, trivial⟩
          rintro x hs ⟨_, hx⟩
          obtain ⟨rfl, rfl⟩ := hx (by omega)
          (repeat first | refine And.intro (by omega) ?_ | refine And.intro (by decide) ?_ | (with_reducible refine frc_parts (by first | omega | decide) ?_) | (with_reducible refine frc_bytesL (by first | omega | decide) ?_) | refine And.intro rfl ?_)
          refine ⟨by simp only [scale]; omega, ⟨by decide, by decide, by decide⟩, fun d1 hd1 => ?_⟩
          have r1 : ∀ i, i < 0 + 12 → appF (nthC []) 0 (scale 0 (0 + 1)) (scale 12 (0 + 1)) (fun q => bytesF 12 nn (q + 0)) i = .w8 (L ([] ++ tab 12 nn) i) := app_row (n := 0) (k := 12) rfl (tab_len _ _) (fun i hi => absurd hi (by omega)) (fun i hi => by rw [L_tab hi]; exact bytesF_lt hi)
          rw [List.nil_append] at r1
          (repeat first | refine And.intro (by omega) ?_ | refine And.intro (by decide) ?_ | (with_reducible refine frc_parts (by first | omega | decide) ?_) | (with_reducible refine frc_bytesL (by first | omega | decide) ?_) | refine And.intro rfl ?_)
          refine ⟨⟨by omega, by simp only [scale]; omega, by decide⟩, fun d2 hd2 => ?_⟩
          have r2 := app_row (n := 0 + 12) (k := 4) (m := [0#8, 0#8, BitVec.ofInt 8 (((1 : Nat) : Int) / 256), BitVec.ofInt 8 ((1 : Nat) : Int)]) (g := nthC [.w8 0, .w8 0, .w8 0, .w8 1]) (tab_len _ _) rfl r1 (fun i hi => by
            have : i = 0 ∨ i = 1 ∨ i = 2 ∨ i = 3 := by omega
            rcases this with rfl | rfl | rfl | rfl <;> rfl)
          have hd2' : 16 ≤ d2 := hd2
          (repeat first | refine And.intro (by omega) ?_ | refine And.intro (by decide) ?_ | (with_reducible refine frc_parts (by first | omega | decide) ?_) | (with_reducible refine frc_bytesL (by first | omega | decide) ?_) | refine And.intro rfl ?_)
          refine call_same (fn_rturn' key (ctrB nn (BitVec.ofNat 32 1)) E hE Nb Nk d2 cb ck d2 hNb hNk hd2') [2, 3, 12] rfl (by (repeat first | exact trivial | refine ⟨rfl, ?_⟩ | refine ⟨fun _ _ => ⟨rfl, trivial⟩, ?_⟩ | refine ⟨fun _ _ => trivial, ?_⟩ | refine ⟨by omega, ?_⟩ | refine ⟨fun _ _ => eqC_winS, ?_⟩ | refine ⟨fun _ _ => eqC_winM, ?_⟩ | refine ⟨fun _ _ => eqC_winB, ?_⟩ | refine ⟨fun _ _ => eqC_selfB, ?_⟩ | refine ⟨fun _ _ => eqC_mpB, ?_⟩)) ?_ (fun _ _ => trivial) ?_
          · (repeat first | exact trivial | refine ⟨rfl, ?_⟩ | refine ⟨fun _ _ => ⟨rfl, trivial⟩, ?_⟩ | refine ⟨fun _ _ => trivial, ?_⟩ | refine ⟨by omega, ?_⟩ | refine ⟨fun _ _ => eqC_winS, ?_⟩ | refine ⟨fun _ _ => eqC_winM, ?_⟩ | refine ⟨fun _ _ => eqC_winB, ?_⟩ | refine ⟨fun _ _ => eqC_selfB, ?_⟩ | refine ⟨fun _ _ => eqC_mpB, ?_⟩)
            refine ⟨fun j hj => eqC_bytes (fun i hi => ?_) j, trivial⟩
            refine (r2 i hi).trans (congrArg SC.w8 (ctr_ref nn 1 (by omega) i hi))
          rintro x hs ⟨c5, rfl, rfl, hc5⟩
          rw [hY]
          (repeat first | refine And.intro (by omega) ?_ | refine And.intro (by decide) ?_ | (with_reducible refine frc_parts (by first | omega | decide) ?_) | (with_reducible refine frc_bytesL (by first | omega | decide) ?_) | refine And.intro rfl ?_)
          refine .inl ⟨Option (Nat × Nat), fun x => match x with
            | none => ⟨[.a (.c (.sl 2 0 0 256 cb)), .any, .any, .any, .any, .any, .any, .any, .any, .any, .any, .any, .a (.c (.slc none 0 0)), .any, .any, .any, .a (.c (.sl 5 0 0 16 16)), .any, .any, .a (.c (.sl 6 0 0 16 c5)), .a (.c (.int .i64 (0))), .any, .any, .any, .any, .any, .any, .any, .any, .any, .any, .any, .any, .any, .any, .any, .any, .any, .any, .any, .any, .any, .any, .any, .any, .any, .any, .any, .any, .any, .any, .any, .any, .any, .any, .any, .any, .any, .any, .any, .any, .any, .any, .any, .any, .any, .any, .any, .any, .any, .any, .any, .any, .any, .any, .any, .any, .any, .any, .any, .any, .any, .any, .any, .any, .any, .any, .any, .any, .any, .any, .any, .any, .any, .any, .any, .any, .any, .any, .any, .any, .any, .any, .any, .any, .any, .any, .any, .any, .any, .any, .any, .any, .any, .any, .any, .any, .any, .any, .any, .any, .any, .any], [bts za Na oa na (L a), bts zh Nh oh nh (L b), [.row Nb (bytesF 256 boxes)], [.row Nk (bytesF 16 key)], [.row Nn (bytesF 12 nn)], rowE e3, [.row c5 (bytesF 16 Y)]]⟩
            | some (i, c) => ⟨[.a (.c (.sl 2 0 0 256 cb)), .any, .any, .any, .any, .any, .any, .any, .any, .any, .any, .any, .a (.c (.sl 7 0 0 i c)), .any, .any, .any, .a (.c (.sl 5 0 0 16 16)), .any, .any, .a (.c (.sl 6 0 0 16 c5)), .a (.c (.int .i64 (↑i))), .any, .any, .any, .any, .any, .any, .any, .any, .any, .any, .any, .any, .any, .any, .any, .any, .any, .any, .any, .any, .any, .any, .any, .any, .any, .any, .any, .any, .any, .any, .any, .any, .any, .any, .any, .any, .any, .any, .any, .any, .any, .any, .any, .any, .any, .any, .any, .any, .any, .any, .any, .any, .any, .any, .any, .any, .any, .any, .any, .any, .any, .any, .any, .any, .any, .any, .any, .any, .any, .any, .any, .any, .any, .any, .any, .any, .any, .any, .any, .any, .any, .any, .any, .any, .any, .any, .any, .any, .any, .any, .any, .any, .any, .any, .any, .any, .any, .any, .any, .any, .any, .any], [bts za Na oa na (L a), bts zh Nh oh nh (L b), [.row Nb (bytesF 256 boxes)], [.row Nk (bytesF 16 key)], [.row Nn (bytesF 12 nn)], rowE e3, [.row c5 (bytesF 16 Y)], [.row c (bytesF i (L S))]]⟩,
            fun x => match x with
            | none => True
            | some (i, c) => 0 < i ∧ i ≤ 16 ∧ i ≤ c, fun x => match x with
            | none => 100
            | some (i, _) => 16 - i, ⟨none, [0, 1, 2, 3, 4, 8, 13], ⟨⟨rfl, rfl, rfl⟩, ?_⟩, trivial⟩, fun x => ?_⟩
          · (repeat first | exact trivial | refine ⟨rfl, ?_⟩ | refine ⟨fun _ _ => ⟨rfl, trivial⟩, ?_⟩ | refine ⟨fun _ _ => trivial, ?_⟩ | refine ⟨by omega, ?_⟩ | refine ⟨fun _ _ => eqC_winS, ?_⟩ | refine ⟨fun _ _ => eqC_winM, ?_⟩ | refine ⟨fun _ _ => eqC_winB, ?_⟩ | refine ⟨fun _ _ => eqC_selfB, ?_⟩ | refine ⟨fun _ _ => eqC_mpB, ?_⟩)
            refine eqC_bts (eqC_bts ?_)
            (repeat first | exact trivial | refine ⟨rfl, ?_⟩ | refine ⟨fun _ _ => ⟨rfl, trivial⟩, ?_⟩ | refine ⟨fun _ _ => trivial, ?_⟩ | refine ⟨by omega, ?_⟩ | refine ⟨fun _ _ => eqC_winS, ?_⟩ | refine ⟨fun _ _ => eqC_winM, ?_⟩ | refine ⟨fun _ _ => eqC_winB, ?_⟩ | refine ⟨fun _ _ => eqC_selfB, ?_⟩ | refine ⟨fun _ _ => eqC_mpB, ?_⟩)
          rcases x with _ | ⟨i, c⟩
          · intro _
            refine ⟨fun h => ?_, fun h => absurd (of_decide_eq_false h) (by decide)⟩
            refine ⟨none, [], [(0, true), (1, true), (2, true), (3, true), (4, true), (5, true), (6, true), (7, true), (8, true), (9, true), (10, false)], [11, 12], by kernel_rfl, ?_⟩
            (repeat first | refine And.intro (by omega) ?_ | refine And.intro (by decide) ?_ | (with_reducible refine frc_parts (by first | omega | decide) ?_) | (with_reducible refine frc_bytesL (by first | omega | decide) ?_) | refine And.intro rfl ?_)
            refine fun _ c3 hc3 => ?_
            (repeat first | refine And.intro (by omega) ?_ | refine And.intro (by decide) ?_ | (with_reducible refine frc_parts (by first | omega | decide) ?_) | (with_reducible refine frc_bytesL (by first | omega | decide) ?_) | refine And.intro rfl ?_)
            refine ⟨some (0 + 1, c3), [0, 1, 2, 3, 4, 5, 6, 8], ⟨⟨rfl, rfl, rfl⟩, ?_⟩, ⟨by omega, by omega, by simpa using hc3⟩, by first | omega | (dsimp only; omega)⟩
            (repeat first | exact trivial | refine ⟨rfl, ?_⟩ | refine ⟨fun _ _ => ⟨rfl, trivial⟩, ?_⟩ | refine ⟨fun _ _ => trivial, ?_⟩ | refine ⟨by omega, ?_⟩ | refine ⟨fun _ _ => eqC_winS, ?_⟩ | refine ⟨fun _ _ => eqC_winM, ?_⟩ | refine ⟨fun _ _ => eqC_winB, ?_⟩ | refine ⟨fun _ _ => eqC_selfB, ?_⟩ | refine ⟨fun _ _ => eqC_mpB, ?_⟩)
            refine eqC_bts (eqC_bts ?_)
            (repeat first | exact trivial | refine ⟨rfl, ?_⟩ | refine ⟨fun _ _ => ⟨rfl, trivial⟩, ?_⟩ | refine ⟨fun _ _ => trivial, ?_⟩ | refine ⟨by omega, ?_⟩ | refine ⟨fun _ _ => eqC_winS, ?_⟩ | refine ⟨fun _ _ => eqC_winM, ?_⟩ | refine ⟨fun _ _ => eqC_winB, ?_⟩ | refine ⟨fun _ _ => eqC_selfB, ?_⟩ | refine ⟨fun _ _ => eqC_mpB, ?_⟩)
            refine ⟨fun j hj => eqC_bytes (fun i hi => ?_) j, trivial⟩
            · obtain rfl : i = 0 := by omega
              show SC.w8 (byE e3 (0 + 0) ^^^ Y 0) = _
              have := hTs 0 (by omega)
              rw [hn0] at this
              exact congrArg SC.w8 this
          · rintro ⟨hi0', hi, hc⟩
            refine ⟨fun h => ?_, fun h => ?_⟩
            · have hlt : i < 16 := by have : (i : Int) < 16 := of_decide_eq_true h; omega
              refine ⟨none, [], [(0, true), (1, true), (2, true), (3, true), (4, true), (5, true), (6, true), (7, true), (8, true), (9, true), (10, false)], [11, 12], by kernel_rfl, ?_⟩
              (repeat first | refine And.intro (by omega) ?_ | refine And.intro (by decide) ?_ | (with_reducible refine frc_parts (by first | omega | decide) ?_) | (with_reducible refine frc_bytesL (by first | omega | decide) ?_) | refine And.intro rfl ?_)
              refine ⟨⟨by omega, by simp only [scale]; omega, by show (i + 1) * 1 ≤ 140737488355328; omega⟩, fun c3 hc3 => ?_⟩
              (repeat first | refine And.intro (by omega) ?_ | refine And.intro (by decide) ?_ | (with_reducible refine frc_parts (by first | omega | decide) ?_) | (with_reducible refine frc_bytesL (by first | omega | decide) ?_) | refine And.intro rfl ?_)
              refine ⟨some (i + 1, c3), [0, 1, 2, 3, 4, 5, 6, 9], ⟨⟨rfl, rfl, rfl⟩, ?_⟩, ⟨by omega, by omega, by simpa using hc3⟩, by first | omega | (dsimp only; omega)⟩
              (repeat first | exact trivial | refine ⟨rfl, ?_⟩ | refine ⟨fun _ _ => ⟨rfl, trivial⟩, ?_⟩ | refine ⟨fun _ _ => trivial, ?_⟩ | refine ⟨by omega, ?_⟩ | refine ⟨fun _ _ => eqC_winS, ?_⟩ | refine ⟨fun _ _ => eqC_winM, ?_⟩ | refine ⟨fun _ _ => eqC_winB, ?_⟩ | refine ⟨fun _ _ => eqC_selfB, ?_⟩ | refine ⟨fun _ _ => eqC_mpB, ?_⟩)
              refine eqC_bts (eqC_bts ?_)
              (repeat first | exact trivial | refine ⟨rfl, ?_⟩ | refine ⟨fun _ _ => ⟨rfl, trivial⟩, ?_⟩ | refine ⟨fun _ _ => trivial, ?_⟩ | refine ⟨by omega, ?_⟩ | refine ⟨fun _ _ => eqC_winS, ?_⟩ | refine ⟨fun _ _ => eqC_winM, ?_⟩ | refine ⟨fun _ _ => eqC_winB, ?_⟩ | refine ⟨fun _ _ => eqC_selfB, ?_⟩ | refine ⟨fun _ _ => eqC_mpB, ?_⟩)
              refine ⟨fun j hj => eqC_bytes (fun q hi => ?_) j, trivial⟩
              · by_cases h2 : q < i
                · unfold appF
                  rw [if_pos (by simpa [scale] using h2)]
                  exact bytesF_lt h2
                · have hq : q = i := by omega
                  rw [hq]
                  unfold appF
                  rw [if_neg (by simp [scale]), if_pos (by simp [scale]), show i - scale (i) (0 + 1) = 0 by simp [scale]]
                  have e9 : (i : Int).toNat + 0 = i := by omega
                  show SC.w8 (byE e3 ((i : Int).toNat + 0) ^^^ Y ((i : Int).toNat + 0)) = _
                  rw [e9, hTs i (by omega), hn0, Nat.zero_add]
            · obtain rfl : i = 16 := by have : ¬ (i : Int) < 16 := of_decide_eq_false h; omega
              refine ⟨.a (.c (.sl 5 0 0 (nh + 16) c)), _, ⟨[0, 1, 2, 3, 4, 7], ⟨rfl, rfl, rfl⟩, ?_⟩, c, by omega, rfl, rfl⟩
              (repeat first | exact trivial | refine ⟨rfl, ?_⟩ | refine ⟨fun _ _ => ⟨rfl, trivial⟩, ?_⟩ | refine ⟨fun _ _ => trivial, ?_⟩ | refine ⟨by omega, ?_⟩ | refine ⟨fun _ _ => eqC_winS, ?_⟩ | refine ⟨fun _ _ => eqC_winM, ?_⟩ | refine ⟨fun _ _ => eqC_winB, ?_⟩ | refine ⟨fun _ _ => eqC_selfB, ?_⟩ | refine ⟨fun _ _ => eqC_mpB, ?_⟩)
              refine eqC_bts (eqC_bts ?_)
              (repeat first | exact trivial | refine ⟨rfl, ?_⟩ | refine ⟨fun _ _ => ⟨rfl, trivial⟩, ?_⟩ | refine ⟨fun _ _ => trivial, ?_⟩ | refine ⟨by omega, ?_⟩ | refine ⟨fun _ _ => eqC_winS, ?_⟩ | refine ⟨fun _ _ => eqC_winM, ?_⟩ | refine ⟨fun _ _ => eqC_winB, ?_⟩ | refine ⟨fun _ _ => eqC_selfB, ?_⟩ | refine ⟨fun _ _ => eqC_mpB, ?_⟩)
              rw [hn0]
              (repeat first | exact trivial | refine ⟨rfl, ?_⟩ | refine ⟨fun _ _ => ⟨rfl, trivial⟩, ?_⟩ | refine ⟨fun _ _ => trivial, ?_⟩ | refine ⟨by omega, ?_⟩ | refine ⟨fun _ _ => eqC_winS, ?_⟩ | refine ⟨fun _ _ => eqC_winM, ?_⟩ | refine ⟨fun _ _ => eqC_winB, ?_⟩ | refine ⟨fun _ _ => eqC_selfB, ?_⟩ | refine ⟨fun _ _ => eqC_mpB, ?_⟩)
      · skip
        (repeat first | refine And.intro (by omega) ?_ | refine And.intro (by decide) ?_ | (with_reducible refine frc_parts (by first | omega | decide) ?_) | (with_reducible refine frc_bytesL (by first | omega | decide) ?_) | refine And.intro rfl ?_)
        refine call_same (fn_over za c1 16 Na oa na c1 16 ca h0 (fun _ => 0#8) H 0#128 e1 a hH hz00 he1 hc1 (by omega) hla hNa hca hza hna) [5, 6, 0] rfl (by (repeat first | exact trivial | refine ⟨rfl, ?_⟩ | refine ⟨fun _ _ => ⟨rfl, trivial⟩, ?_⟩ | refine ⟨fun _ _ => trivial, ?_⟩ | refine ⟨by omega, ?_⟩ | refine ⟨fun _ _ => eqC_winS, ?_⟩ | refine ⟨fun _ _ => eqC_winM, ?_⟩ | refine ⟨fun _ _ => eqC_winB, ?_⟩ | refine ⟨fun _ _ => eqC_selfB, ?_⟩ | refine ⟨fun _ _ => eqC_mpB, ?_⟩)) ?_ (fun _ _ => trivial) ?_
        · (repeat first | exact trivial | refine ⟨rfl, ?_⟩ | refine ⟨fun _ _ => ⟨rfl, trivial⟩, ?_⟩ | refine ⟨fun _ _ => trivial, ?_⟩ | refine ⟨by omega, ?_⟩ | refine ⟨fun _ _ => eqC_winS, ?_⟩ | refine ⟨fun _ _ => eqC_winM, ?_⟩ | refine ⟨fun _ _ => eqC_winB, ?_⟩ | refine ⟨fun _ _ => eqC_selfB, ?_⟩ | refine ⟨fun _ _ => eqC_mpB, ?_⟩)
          refine ⟨fun j hj => eqC_bytes (f := fun _ => SC.w8 0) (fun _ _ => rfl) j, ?_⟩
          refine eqC_bts ?_
          (repeat first | exact trivial | refine ⟨rfl, ?_⟩ | refine ⟨fun _ _ => ⟨rfl, trivial⟩, ?_⟩ | refine ⟨fun _ _ => trivial, ?_⟩ | refine ⟨by omega, ?_⟩ | refine ⟨fun _ _ => eqC_winS, ?_⟩ | refine ⟨fun _ _ => eqC_winM, ?_⟩ | refine ⟨fun _ _ => eqC_winB, ?_⟩ | refine ⟨fun _ _ => eqC_selfB, ?_⟩ | refine ⟨fun _ _ => eqC_mpB, ?_⟩)
        rintro x hs ⟨_, hx⟩
        obtain ⟨rfl, rfl⟩ := hx (by omega)
        (repeat first | refine And.intro (by omega) ?_ | refine And.intro (by decide) ?_ | (with_reducible refine frc_parts (by first | omega | decide) ?_) | (with_reducible refine frc_bytesL (by first | omega | decide) ?_) | refine And.intro rfl ?_)
        refine call_same (fn_over true c1 16 0 0 0 c1 16 0 h0 (byE e1) H e1 e2 C hH (toE_byE _) he2 hc1 (by omega) hCl0 (by omega) (by omega) (fun _ => rfl) (by omega)) [5, 7, 0] rfl (by (repeat first | exact trivial | refine ⟨rfl, ?_⟩ | refine ⟨fun _ _ => ⟨rfl, trivial⟩, ?_⟩ | refine ⟨fun _ _ => trivial, ?_⟩ | refine ⟨by omega, ?_⟩ | refine ⟨fun _ _ => eqC_winS, ?_⟩ | refine ⟨fun _ _ => eqC_winM, ?_⟩ | refine ⟨fun _ _ => eqC_winB, ?_⟩ | refine ⟨fun _ _ => eqC_selfB, ?_⟩ | refine ⟨fun _ _ => eqC_mpB, ?_⟩)) ?_ (fun _ _ => trivial) ?_
        · (repeat first | exact trivial | refine ⟨rfl, ?_⟩ | refine ⟨fun _ _ => ⟨rfl, trivial⟩, ?_⟩ | refine ⟨fun _ _ => trivial, ?_⟩ | refine ⟨by omega, ?_⟩ | refine ⟨fun _ _ => eqC_winS, ?_⟩ | refine ⟨fun _ _ => eqC_winM, ?_⟩ | refine ⟨fun _ _ => eqC_winB, ?_⟩ | refine ⟨fun _ _ => eqC_selfB, ?_⟩ | refine ⟨fun _ _ => eqC_mpB, ?_⟩)
          refine ⟨fun j hj => eqC_bytes (f := fun j => SC.mp _ (SC.w8 (byE e1 j))) (fun _ _ => rfl) j, eqSegs_nil (eqSegs_nil trivial)⟩
        rintro x hs ⟨hx, _⟩
        obtain ⟨rfl, rfl⟩ := hx rfl
        have e21 : e2 = e1 := by rw [← he2]; exact hL_nil _ _ hCl0
        (repeat first | refine And.intro (by omega) ?_ | refine And.intro (by decide) ?_ | (with_reducible refine frc_parts (by first | omega | decide) ?_) | (with_reducible refine frc_bytesL (by first | omega | decide) ?_) | refine And.intro rfl ?_)
        refine .inl ⟨Nat, fun i => ⟨[.a (.c (.sl 2 0 0 256 cb)), .a (.c (.sl 3 0 0 16 ck)), .a (.c (.sl 4 0 0 12 cn)), .a (.c (.sn za 0 0 oa na ca)), .any, .any, .any, .any, .any, .any, .any, .a (.c (.sl 5 0 0 16 c1)), .a (.c (.slc none 0 0)), .any, .any, .any, .a (.c (.sl 6 0 0 16 16)), .a (.c (.sl 7 0 0 16 16)), .a (.c (.int .i64 (↑i))), .any, .any, .any, .any, .any, .any, .any, .any, .any, .any, .any, .any, .any, .any, .any, .any, .any, .any, .any, .any, .any, .any, .any, .any, .any, .any, .any, .any, .any, .any, .any, .any, .any, .any, .any, .any, .any, .any, .any, .any, .any, .any, .any, .any, .any, .any, .any, .any, .any, .any, .any, .any, .any, .any, .any, .any, .any, .any, .any, .any, .any, .any, .any, .any, .any, .any, .any, .any, .any, .any, .any, .any, .any, .any, .any, .any, .any, .any, .any, .any, .any, .any, .any, .any, .any, .any, .any, .any, .any, .any, .any, .any, .any, .any, .any, .any, .any, .any, .any, .any, .any, .any, .any, .any], [bts za Na oa na (L a), bts zh Nh oh nh (L b), [.row Nb (bytesF 256 boxes)], [.row Nk (bytesF 16 key)], [.row Nn (bytesF 12 nn)], [.row c1 (bytesF 16 h0)], rowE e2, [.row 16 fun j => .w8 (if 7 - j % 8 < i then G j else 0#8)]]⟩, fun i => i ≤ 8, fun i => 8 - i, ⟨0, [0, 1, 2, 3, 4, 5, 7, 8], ⟨⟨rfl, rfl, rfl⟩, ?_⟩, by omega⟩, fun i hi => ⟨fun h => ?_, fun h => ?_⟩⟩
        · (repeat first | exact trivial | refine ⟨rfl, ?_⟩ | refine ⟨fun _ _ => ⟨rfl, trivial⟩, ?_⟩ | refine ⟨fun _ _ => trivial, ?_⟩ | refine ⟨by omega, ?_⟩ | refine ⟨fun _ _ => eqC_winS, ?_⟩ | refine ⟨fun _ _ => eqC_winM, ?_⟩ | refine ⟨fun _ _ => eqC_winB, ?_⟩ | refine ⟨fun _ _ => eqC_selfB, ?_⟩ | refine ⟨fun _ _ => eqC_mpB, ?_⟩)
          refine eqC_bts (eqC_bts ?_)
          (repeat first | exact trivial | refine ⟨rfl, ?_⟩ | refine ⟨fun _ _ => ⟨rfl, trivial⟩, ?_⟩ | refine ⟨fun _ _ => trivial, ?_⟩ | refine ⟨by omega, ?_⟩ | refine ⟨fun _ _ => eqC_winS, ?_⟩ | refine ⟨fun _ _ => eqC_winM, ?_⟩ | refine ⟨fun _ _ => eqC_winB, ?_⟩ | refine ⟨fun _ _ => eqC_selfB, ?_⟩ | refine ⟨fun _ _ => eqC_mpB, ?_⟩)
          refine ⟨fun j hj => eqC_w8 ?_, ?_⟩
          · rw [e21]; rfl
          (repeat first | exact trivial | refine ⟨rfl, ?_⟩ | refine ⟨fun _ _ => ⟨rfl, trivial⟩, ?_⟩ | refine ⟨fun _ _ => trivial, ?_⟩ | refine ⟨by omega, ?_⟩ | refine ⟨fun _ _ => eqC_winS, ?_⟩ | refine ⟨fun _ _ => eqC_winM, ?_⟩ | refine ⟨fun _ _ => eqC_winB, ?_⟩ | refine ⟨fun _ _ => eqC_selfB, ?_⟩ | refine ⟨fun _ _ => eqC_mpB, ?_⟩)
        · have hlt : (i : Int) < 8 := of_decide_eq_true h
          have hi8 : i < 8 := by omega
          (repeat first | refine And.intro (by omega) ?_ | refine And.intro (by decide) ?_ | (with_reducible refine frc_parts (by first | omega | decide) ?_) | (with_reducible refine frc_bytesL (by first | omega | decide) ?_) | refine And.intro rfl ?_)
          refine ⟨i + 1, [0, 1, 2, 3, 4, 5, 6, 7], ⟨⟨rfl, rfl, rfl⟩, ?_⟩, by dsimp only; omega, by dsimp only; omega⟩
          (repeat first | exact trivial | refine ⟨rfl, ?_⟩ | refine ⟨fun _ _ => ⟨rfl, trivial⟩, ?_⟩ | refine ⟨fun _ _ => trivial, ?_⟩ | refine ⟨by omega, ?_⟩ | refine ⟨fun _ _ => eqC_winS, ?_⟩ | refine ⟨fun _ _ => eqC_winM, ?_⟩ | refine ⟨fun _ _ => eqC_winB, ?_⟩ | refine ⟨fun _ _ => eqC_selfB, ?_⟩ | refine ⟨fun _ _ => eqC_mpB, ?_⟩)
          refine eqC_bts (eqC_bts ?_)
          (repeat first | exact trivial | refine ⟨rfl, ?_⟩ | refine ⟨fun _ _ => ⟨rfl, trivial⟩, ?_⟩ | refine ⟨fun _ _ => trivial, ?_⟩ | refine ⟨by omega, ?_⟩ | refine ⟨fun _ _ => eqC_winS, ?_⟩ | refine ⟨fun _ _ => eqC_winM, ?_⟩ | refine ⟨fun _ _ => eqC_winB, ?_⟩ | refine ⟨fun _ _ => eqC_selfB, ?_⟩ | refine ⟨fun _ _ => eqC_mpB, ?_⟩)
          refine ⟨fun j hj => eqC_w8 ?_, trivial⟩
          have f1 : (7 - (i : Int)).toNat + 0 = 7 - i := by omega
          have f2 : (15 - (i : Int)).toNat + 0 = 15 - i := by omega
          have g1 := long_hi na nh i hi8 (by omega)
          have g2 := long_lo na nh 0 hn0.symm i hi8 (by omega)
          rw [hG] at g1 g2
          rw [f1, f2]
          unfold upd
          by_cases h1 : j = 15 - i
          · rw [if_pos h1, if_pos (by omega), h1, ← g2]
          rw [if_neg h1]
          by_cases h2 : j = 7 - i
          · rw [if_pos h2, if_pos (by omega), h2, ← g1]
          rw [if_neg h2]
          have : 7 - j % 8 < i ↔ 7 - j % 8 < i + 1 := by omega
          simp only [this]
        · obtain rfl : i = 8 := by have : ¬ (i : Int) < 8 := of_decide_eq_false h; have hi : i ≤ 8 := hi; omega
          (repeat first | refine And.intro (by omega) ?_ | refine And.intro (by decide) ?_ | (with_reducible refine frc_parts (by first | omega | decide) ?_) | (with_reducible refine frc_bytesL (by first | omega | decide) ?_) | refine And.intro rfl ?_)
          refine call_same (fn_over false c1 16 16 0 16 c1 16 16 h0 (byE e2) H e2 e3 (tab 16 G) hH (toE_byE _) he3 hc1 (by omega) (tab_len _ _) (by omega) (by omega) (fun h => Bool.noConfusion h) (by omega)) [5, 6, 7] rfl (by (repeat first | exact trivial | refine ⟨rfl, ?_⟩ | refine ⟨fun _ _ => ⟨rfl, trivial⟩, ?_⟩ | refine ⟨fun _ _ => trivial, ?_⟩ | refine ⟨by omega, ?_⟩ | refine ⟨fun _ _ => eqC_winS, ?_⟩ | refine ⟨fun _ _ => eqC_winM, ?_⟩ | refine ⟨fun _ _ => eqC_winB, ?_⟩ | refine ⟨fun _ _ => eqC_selfB, ?_⟩ | refine ⟨fun _ _ => eqC_mpB, ?_⟩)) ?_ (fun _ _ => trivial) ?_
          · (repeat first | exact trivial | refine ⟨rfl, ?_⟩ | refine ⟨fun _ _ => ⟨rfl, trivial⟩, ?_⟩ | refine ⟨fun _ _ => trivial, ?_⟩ | refine ⟨by omega, ?_⟩ | refine ⟨fun _ _ => eqC_winS, ?_⟩ | refine ⟨fun _ _ => eqC_winM, ?_⟩ | refine ⟨fun _ _ => eqC_winB, ?_⟩ | refine ⟨fun _ _ => eqC_selfB, ?_⟩ | refine ⟨fun _ _ => eqC_mpB, ?_⟩)
            refine ⟨fun j hj => eqC_bytes (f := fun j => SC.w8 (byE e2 j)) (fun _ _ => rfl) j, ?_⟩
            (repeat first | exact trivial | refine ⟨rfl, ?_⟩ | refine ⟨fun _ _ => ⟨rfl, trivial⟩, ?_⟩ | refine ⟨fun _ _ => trivial, ?_⟩ | refine ⟨by omega, ?_⟩ | refine ⟨fun _ _ => eqC_winS, ?_⟩ | refine ⟨fun _ _ => eqC_winM, ?_⟩ | refine ⟨fun _ _ => eqC_winB, ?_⟩ | refine ⟨fun _ _ => eqC_selfB, ?_⟩ | refine ⟨fun _ _ => eqC_mpB, ?_⟩)
            exact ⟨fun j hj => eqC_win8 (b := fun j => if 7 - j % 8 < 8 then G j else 0#8) (fun i hi => by rw [if_pos (by omega), L_tab hi]) j, trivial⟩
          rintro x hs ⟨_, hx⟩
          obtain ⟨rfl, rfl⟩ := hx (by omega)
          (repeat first | refine And.intro (by omega) ?_ | refine And.intro (by decide) ?_ | (with_reducible refine frc_parts (by first | omega | decide) ?_) | (with_reducible refine frc_bytesL (by first | omega | decide) ?_) | refine And.intro rfl ?_)
          refine ⟨by simp only [scale]; omega, ⟨by decide, by decide, by decide⟩, fun d1 hd1 => ?_⟩
          have r1 : ∀ i, i < 0 + 12 → appF (nthC []) 0 (scale 0 (0 + 1)) (scale 12 (0 + 1)) (fun q => bytesF 12 nn (q + 0)) i = .w8 (L ([] ++ tab 12 nn) i) := app_row (n := 0) (k := 12) rfl (tab_len _ _) (fun i hi => absurd hi (by omega)) (fun i hi => by rw [L_tab hi]; exact bytesF_lt hi)
          rw [List.nil_append] at r1
          (repeat first | refine And.intro (by omega) ?_ | refine And.intro (by decide) ?_ | (with_reducible refine frc_parts (by first | omega | decide) ?_) | (with_reducible refine frc_bytesL (by first | omega | decide) ?_) | refine And.intro rfl ?_)
          refine ⟨⟨by omega, by simp only [scale]; omega, by decide⟩, fun d2 hd2 => ?_⟩
          have r2 := app_row (n := 0 + 12) (k := 4) (m := [0#8, 0#8, BitVec.ofInt 8 (((1 : Nat) : Int) / 256), BitVec.ofInt 8 ((1 : Nat) : Int)]) (g := nthC [.w8 0, .w8 0, .w8 0, .w8 1]) (tab_len _ _) rfl r1 (fun i hi => by
            have : i = 0 ∨ i = 1 ∨ i = 2 ∨ i = 3 := by omega
            rcases this with rfl | rfl | rfl | rfl <;> rfl)
          have hd2' : 16 ≤ d2 := hd2
          (repeat first | refine And.intro (by omega) ?_ | refine And.intro (by decide) ?_ | (with_reducible refine frc_parts (by first | omega | decide) ?_) | (with_reducible refine frc_bytesL (by first | omega | decide) ?_) | refine And.intro rfl ?_)
          refine call_same (fn_rturn' key (ctrB nn (BitVec.ofNat 32 1)) E hE Nb Nk d2 cb ck d2 hNb hNk hd2') [2, 3, 12] rfl (by (repeat first | exact trivial | refine ⟨rfl, ?_⟩ | refine ⟨fun _ _ => ⟨rfl, trivial⟩, ?_⟩ | refine ⟨fun _ _ => trivial, ?_⟩ | refine ⟨by omega, ?_⟩ | refine ⟨fun _ _ => eqC_winS, ?_⟩ | refine ⟨fun _ _ => eqC_winM, ?_⟩ | refine ⟨fun _ _ => eqC_winB, ?_⟩ | refine ⟨fun _ _ => eqC_selfB, ?_⟩ | refine ⟨fun _ _ => eqC_mpB, ?_⟩)) ?_ (fun _ _ => trivial) ?_
          · (repeat first | exact trivial | refine ⟨rfl, ?_⟩ | refine ⟨fun _ _ => ⟨rfl, trivial⟩, ?_⟩ | refine ⟨fun _ _ => trivial, ?_⟩ | refine ⟨by omega, ?_⟩ | refine ⟨fun _ _ => eqC_winS, ?_⟩ | refine ⟨fun _ _ => eqC_winM, ?_⟩ | refine ⟨fun _ _ => eqC_winB, ?_⟩ | refine ⟨fun _ _ => eqC_selfB, ?_⟩ | refine ⟨fun _ _ => eqC_mpB, ?_⟩)
            refine ⟨fun j hj => eqC_bytes (fun i hi => ?_) j, trivial⟩
            refine (r2 i hi).trans (congrArg SC.w8 (ctr_ref nn 1 (by omega) i hi))
          rintro x hs ⟨c5, rfl, rfl, hc5⟩
          rw [hY]
          (repeat first | refine And.intro (by omega) ?_ | refine And.intro (by decide) ?_ | (with_reducible refine frc_parts (by first | omega | decide) ?_) | (with_reducible refine frc_bytesL (by first | omega | decide) ?_) | refine And.intro rfl ?_)
          refine .inl ⟨Option (Nat × Nat), fun x => match x with
            | none => ⟨[.a (.c (.sl 2 0 0 256 cb)), .any, .any, .any, .any, .any, .any, .any, .any, .any, .any, .any, .a (.c (.slc none 0 0)), .any, .any, .any, .a (.c (.sl 5 0 0 16 16)), .any, .any, .a (.c (.sl 6 0 0 16 c5)), .a (.c (.int .i64 (0))), .any, .any, .any, .any, .any, .any, .any, .any, .any, .any, .any, .any, .any, .any, .any, .any, .any, .any, .any, .any, .any, .any, .any, .any, .any, .any, .any, .any, .any, .any, .any, .any, .any, .any, .any, .any, .any, .any, .any, .any, .any, .any, .any, .any, .any, .any, .any, .any, .any, .any, .any, .any, .any, .any, .any, .any, .any, .any, .any, .any, .any, .any, .any, .any, .any, .any, .any, .any, .any, .any, .any, .any, .any, .any, .any, .any, .any, .any, .any, .any, .any, .any, .any, .any, .any, .any, .any, .any, .any, .any, .any, .any, .any, .any, .any, .any, .any, .any, .any, .any, .any, .any], [bts za Na oa na (L a), bts zh Nh oh nh (L b), [.row Nb (bytesF 256 boxes)], [.row Nk (bytesF 16 key)], [.row Nn (bytesF 12 nn)], rowE e3, [.row c5 (bytesF 16 Y)]]⟩
            | some (i, c) => ⟨[.a (.c (.sl 2 0 0 256 cb)), .any, .any, .any, .any, .any, .any, .any, .any, .any, .any, .any, .a (.c (.sl 7 0 0 i c)), .any, .any, .any, .a (.c (.sl 5 0 0 16 16)), .any, .any, .a (.c (.sl 6 0 0 16 c5)), .a (.c (.int .i64 (↑i))), .any, .any, .any, .any, .any, .any, .any, .any, .any, .any, .any, .any, .any, .any, .any, .any, .any, .any, .any, .any, .any, .any, .any, .any, .any, .any, .any, .any, .any, .any, .any, .any, .any, .any, .any, .any, .any, .any, .any, .any, .any, .any, .any, .any, .any, .any, .any, .any, .any, .any, .any, .any, .any, .any, .any, .any, .any, .any, .any, .any, .any, .any, .any, .any, .any, .any, .any, .any, .any, .any, .any, .any, .any, .any, .any, .any, .any, .any, .any, .any, .any, .any, .any, .any, .any, .any, .any, .any, .any, .any, .any, .any, .any, .any, .any, .any, .any, .any, .any, .any, .any, .any], [bts za Na oa na (L a), bts zh Nh oh nh (L b), [.row Nb (bytesF 256 boxes)], [.row Nk (bytesF 16 key)], [.row Nn (bytesF 12 nn)], rowE e3, [.row c5 (bytesF 16 Y)], [.row c (bytesF i (L S))]]⟩,
            fun x => match x with
            | none => True
            | some (i, c) => 0 < i ∧ i ≤ 16 ∧ i ≤ c, fun x => match x with
            | none => 100
            | some (i, _) => 16 - i, ⟨none, [0, 1, 2, 3, 4, 8, 13], ⟨⟨rfl, rfl, rfl⟩, ?_⟩, trivial⟩, fun x => ?_⟩
          · (repeat first | exact trivial | refine ⟨rfl, ?_⟩ | refine ⟨fun _ _ => ⟨rfl, trivial⟩, ?_⟩ | refine ⟨fun _ _ => trivial, ?_⟩ | refine ⟨by omega, ?_⟩ | refine ⟨fun _ _ => eqC_winS, ?_⟩ | refine ⟨fun _ _ => eqC_winM, ?_⟩ | refine ⟨fun _ _ => eqC_winB, ?_⟩ | refine ⟨fun _ _ => eqC_selfB, ?_⟩ | refine ⟨fun _ _ => eqC_mpB, ?_⟩)
            refine eqC_bts (eqC_bts ?_)
            (repeat first | exact trivial | refine ⟨rfl, ?_⟩ | refine ⟨fun _ _ => ⟨rfl, trivial⟩, ?_⟩ | refine ⟨fun _ _ => trivial, ?_⟩ | refine ⟨by omega, ?_⟩ | refine ⟨fun _ _ => eqC_winS, ?_⟩ | refine ⟨fun _ _ => eqC_winM, ?_⟩ | refine ⟨fun _ _ => eqC_winB, ?_⟩ | refine ⟨fun _ _ => eqC_selfB, ?_⟩ | refine ⟨fun _ _ => eqC_mpB, ?_⟩)
          rcases x with _ | ⟨i, c⟩
          · intro _
            refine ⟨fun h => ?_, fun h => absurd (of_decide_eq_false h) (by decide)⟩
            refine ⟨none, [], [(0, true), (1, true), (2, true), (3, true), (4, true), (5, true), (6, true), (7, true), (8, true), (9, true), (10, false)], [11, 12], by kernel_rfl, ?_⟩
            (repeat first | refine And.intro (by omega) ?_ | refine And.intro (by decide) ?_ | (with_reducible refine frc_parts (by first | omega | decide) ?_) | (with_reducible refine frc_bytesL (by first | omega | decide) ?_) | refine And.intro rfl ?_)
            refine fun _ c3 hc3 => ?_
            (repeat first | refine And.intro (by omega) ?_ | refine And.intro (by decide) ?_ | (with_reducible refine frc_parts (by first | omega | decide) ?_) | (with_reducible refine frc_bytesL (by first | omega | decide) ?_) | refine And.intro rfl ?_)
            refine ⟨some (0 + 1, c3), [0, 1, 2, 3, 4, 5, 6, 8], ⟨⟨rfl, rfl, rfl⟩, ?_⟩, ⟨by omega, by omega, by simpa using hc3⟩, by first | omega | (dsimp only; omega)⟩
            (repeat first | exact trivial | refine ⟨rfl, ?_⟩ | refine ⟨fun _ _ => ⟨rfl, trivial⟩, ?_⟩ | refine ⟨fun _ _ => trivial, ?_⟩ | refine ⟨by omega, ?_⟩ | refine ⟨fun _ _ => eqC_winS, ?_⟩ | refine ⟨fun _ _ => eqC_winM, ?_⟩ | refine ⟨fun _ _ => eqC_winB, ?_⟩ | refine ⟨fun _ _ => eqC_selfB, ?_⟩ | refine ⟨fun _ _ => eqC_mpB, ?_⟩)
            refine eqC_bts (eqC_bts ?_)
            (repeat first | exact trivial | refine ⟨rfl, ?_⟩ | refine ⟨fun _ _ => ⟨rfl, trivial⟩, ?_⟩ | refine ⟨fun _ _ => trivial, ?_⟩ | refine ⟨by omega, ?_⟩ | refine ⟨fun _ _ => eqC_winS, ?_⟩ | refine ⟨fun _ _ => eqC_winM, ?_⟩ | refine ⟨fun _ _ => eqC_winB, ?_⟩ | refine ⟨fun _ _ => eqC_selfB, ?_⟩ | refine ⟨fun _ _ => eqC_mpB, ?_⟩)
            refine ⟨fun j hj => eqC_bytes (fun i hi => ?_) j, trivial⟩
            · obtain rfl : i = 0 := by omega
              show SC.w8 (byE e3 (0 + 0) ^^^ Y 0) = _
              have := hTs 0 (by omega)
              rw [hn0] at this
              exact congrArg SC.w8 this
          · rintro ⟨hi0', hi, hc⟩
            refine ⟨fun h => ?_, fun h => ?_⟩
            · have hlt : i < 16 := by have : (i : Int) < 16 := of_decide_eq_true h; omega
              refine ⟨none, [], [(0, true), (1, true), (2, true), (3, true), (4, true), (5, true), (6, true), (7, true), (8, true), (9, true), (10, false)], [11, 12], by kernel_rfl, ?_⟩
              (repeat first | refine And.intro (by omega) ?_ | refine And.intro (by decide) ?_ | (with_reducible refine frc_parts (by first | omega | decide) ?_) | (with_reducible refine frc_bytesL (by first | omega | decide) ?_) | refine And.intro rfl ?_)
              refine ⟨⟨by omega, by simp only [scale]; omega, by show (i + 1) * 1 ≤ 140737488355328; omega⟩, fun c3 hc3 => ?_⟩
              (repeat first | refine And.intro (by omega) ?_ | refine And.intro (by decide) ?_ | (with_reducible refine frc_parts (by first | omega | decide) ?_) | (with_reducible refine frc_bytesL (by first | omega | decide) ?_) | refine And.intro rfl ?_)
              refine ⟨some (i + 1, c3), [0, 1, 2, 3, 4, 5, 6, 9], ⟨⟨rfl, rfl, rfl⟩, ?_⟩, ⟨by omega, by omega, by simpa using hc3⟩, by first | omega | (dsimp only; omega)⟩
              (repeat first | exact trivial | refine ⟨rfl, ?_⟩ | refine ⟨fun _ _ => ⟨rfl, trivial⟩, ?_⟩ | refine ⟨fun _ _ => trivial, ?_⟩ | refine ⟨by omega, ?_⟩ | refine ⟨fun _ _ => eqC_winS, ?_⟩ | refine ⟨fun _ _ => eqC_winM, ?_⟩ | refine ⟨fun _ _ => eqC_winB, ?_⟩ | refine ⟨fun _ _ => eqC_selfB, ?_⟩ | refine ⟨fun _ _ => eqC_mpB, ?_⟩)
              refine eqC_bts (eqC_bts ?_)
              (repeat first | exact trivial | refine ⟨rfl, ?_⟩ | refine ⟨fun _ _ => ⟨rfl, trivial⟩, ?_⟩ | refine ⟨fun _ _ => trivial, ?_⟩ | refine ⟨by omega, ?_⟩ | refine ⟨fun _ _ => eqC_winS, ?_⟩ | refine ⟨fun _ _ => eqC_winM, ?_⟩ | refine ⟨fun _ _ => eqC_winB, ?_⟩ | refine ⟨fun _ _ => eqC_selfB, ?_⟩ | refine ⟨fun _ _ => eqC_mpB, ?_⟩)
              refine ⟨fun j hj => eqC_bytes (fun q hi => ?_) j, trivial⟩
              · by_cases h2 : q < i
                · unfold appF
                  rw [if_pos (by simpa [scale] using h2)]
                  exact bytesF_lt h2
                · have hq : q = i := by omega
                  rw [hq]
                  unfold appF
                  rw [if_neg (by simp [scale]), if_pos (by simp [scale]), show i - scale (i) (0 + 1) = 0 by simp [scale]]
                  have e9 : (i : Int).toNat + 0 = i := by omega
                  show SC.w8 (byE e3 ((i : Int).toNat + 0) ^^^ Y ((i : Int).toNat + 0)) = _
                  rw [e9, hTs i (by omega), hn0, Nat.zero_add]
            · obtain rfl : i = 16 := by have : ¬ (i : Int) < 16 := of_decide_eq_false h; omega
              refine ⟨.a (.c (.sl 5 0 0 (nh + 16) c)), _, ⟨[0, 1, 2, 3, 4, 7], ⟨rfl, rfl, rfl⟩, ?_⟩, c, by omega, rfl, rfl⟩
              (repeat first | exact trivial | refine ⟨rfl, ?_⟩ | refine ⟨fun _ _ => ⟨rfl, trivial⟩, ?_⟩ | refine ⟨fun _ _ => trivial, ?_⟩ | refine ⟨by omega, ?_⟩ | refine ⟨fun _ _ => eqC_winS, ?_⟩ | refine ⟨fun _ _ => eqC_winM, ?_⟩ | refine ⟨fun _ _ => eqC_winB, ?_⟩ | refine ⟨fun _ _ => eqC_selfB, ?_⟩ | refine ⟨fun _ _ => eqC_mpB, ?_⟩)
              refine eqC_bts (eqC_bts ?_)
              (repeat first | exact trivial | refine ⟨rfl, ?_⟩ | refine ⟨fun _ _ => ⟨rfl, trivial⟩, ?_⟩ | refine ⟨fun _ _ => trivial, ?_⟩ | refine ⟨by omega, ?_⟩ | refine ⟨fun _ _ => eqC_winS, ?_⟩ | refine ⟨fun _ _ => eqC_winM, ?_⟩ | refine ⟨fun _ _ => eqC_winB, ?_⟩ | refine ⟨fun _ _ => eqC_selfB, ?_⟩ | refine ⟨fun _ _ => eqC_mpB, ?_⟩)
              rw [hn0]
              (repeat first | exact trivial | refine ⟨rfl, ?_⟩ | refine ⟨fun _ _ => ⟨rfl, trivial⟩, ?_⟩ | refine ⟨fun _ _ => trivial, ?_⟩ | refine ⟨by omega, ?_⟩ | refine ⟨fun _ _ => eqC_winS, ?_⟩ | refine ⟨fun _ _ => eqC_winM, ?_⟩ | refine ⟨fun _ _ => eqC_winB, ?_⟩ | refine ⟨fun _ _ => eqC_selfB, ?_⟩ | refine ⟨fun _ _ => eqC_mpB, ?_⟩)
  · rintro ⟨hk0, hk, hc⟩
    refine ⟨fun h => ?_, fun h => ?_⟩
    · have hlt : k < nh := by have : (k : Int) < nh := of_decide_eq_true h; omega
      obtain rfl : zh = false := by cases zh; rfl; have := hzh rfl; omega
      (repeat first | refine And.intro (by omega) ?_ | refine And.intro (by decide) ?_ | (with_reducible refine frc_parts (by first | omega | decide) ?_) | (with_reducible refine frc_bytesL (by first | omega | decide) ?_) | refine And.intro rfl ?_)
      refine ⟨by simp only [scale]; omega, ⟨by decide, by decide, by decide⟩, fun d1 hd1 => ?_⟩
      have r1 : ∀ i, i < 0 + 12 → appF (nthC []) 0 (scale 0 (0 + 1)) (scale 12 (0 + 1)) (fun q => bytesF 12 nn (q + 0)) i = .w8 (L ([] ++ tab 12 nn) i) := app_row (n := 0) (k := 12) rfl (tab_len _ _) (fun i hi => absurd hi (by omega)) (fun i hi => by rw [L_tab hi]; exact bytesF_lt hi)
      rw [List.nil_append] at r1
      (repeat first | refine And.intro (by omega) ?_ | refine And.intro (by decide) ?_ | (with_reducible refine frc_parts (by first | omega | decide) ?_) | (with_reducible refine frc_bytesL (by first | omega | decide) ?_) | refine And.intro rfl ?_)
      refine ⟨⟨by omega, by simp only [scale]; omega, by decide⟩, fun d2 hd2 => ?_⟩
      have r2 := app_row (n := 0 + 12) (k := 4) (m := [0#8, 0#8, BitVec.ofInt 8 (((2 + k / 16 : Nat) : Int) / 256), BitVec.ofInt 8 ((2 + k / 16 : Nat) : Int)]) (g := nthC [.w8 0, .w8 0, .w8 (BitVec.ofInt 8 ((2 + (k : Int) / 16) / 256)), .w8 (BitVec.ofInt 8 (2 + (k : Int) / 16))]) (tab_len _ _) rfl r1 (fun i hi => by
        have e2 : (2 + (k : Int) / 16 : Int) = ((2 + k / 16 : Nat) : Int) := by omega
        rw [e2]
        have : i = 0 ∨ i = 1 ∨ i = 2 ∨ i = 3 := by omega
        rcases this with rfl | rfl | rfl | rfl <;> rfl)
      have hd2' : 16 ≤ d2 := hd2
      obtain ⟨Y, hY⟩ : ∃ Y, E (ctrB nn (BitVec.ofNat 32 (2 + k / 16))) = Y := ⟨_, rfl⟩
      (repeat first | refine And.intro (by omega) ?_ | refine And.intro (by decide) ?_ | (with_reducible refine frc_parts (by first | omega | decide) ?_) | (with_reducible refine frc_bytesL (by first | omega | decide) ?_) | refine And.intro rfl ?_)
      refine call_same (fn_rturn' key (ctrB nn (BitVec.ofNat 32 (2 + k / 16))) E hE Nb Nk d2 cb ck d2 hNb hNk hd2') [2, 3, 10] rfl (by (repeat first | exact trivial | refine ⟨rfl, ?_⟩ | refine ⟨fun _ _ => ⟨rfl, trivial⟩, ?_⟩ | refine ⟨fun _ _ => trivial, ?_⟩ | refine ⟨by omega, ?_⟩ | refine ⟨fun _ _ => eqC_winS, ?_⟩ | refine ⟨fun _ _ => eqC_winM, ?_⟩ | refine ⟨fun _ _ => eqC_winB, ?_⟩ | refine ⟨fun _ _ => eqC_selfB, ?_⟩ | refine ⟨fun _ _ => eqC_mpB, ?_⟩)) ?_ (fun _ _ => trivial) ?_
      · (repeat first | exact trivial | refine ⟨rfl, ?_⟩ | refine ⟨fun _ _ => ⟨rfl, trivial⟩, ?_⟩ | refine ⟨fun _ _ => trivial, ?_⟩ | refine ⟨by omega, ?_⟩ | refine ⟨fun _ _ => eqC_winS, ?_⟩ | refine ⟨fun _ _ => eqC_winM, ?_⟩ | refine ⟨fun _ _ => eqC_winB, ?_⟩ | refine ⟨fun _ _ => eqC_selfB, ?_⟩ | refine ⟨fun _ _ => eqC_mpB, ?_⟩)
        refine ⟨fun j hj => eqC_bytes (fun i hi => ?_) j, trivial⟩
        refine (r2 i hi).trans (congrArg SC.w8 (ctr_ref nn (2 + k / 16) (by omega) i hi))
      rintro x hs ⟨c5, rfl, rfl, hc5⟩
      have hYc := hCs (k) hlt
      rw [hY] at hYc ⊢
      refine ⟨none, [], [(0, true), (1, true), (2, true), (3, true), (4, true), (5, true), (6, true), (7, true), (8, true), (9, true), (10, true), (11, false)], [12, 13], by kernel_rfl, ?_⟩
      (repeat first | refine And.intro (by omega) ?_ | refine And.intro (by decide) ?_ | (with_reducible refine frc_parts (by first | omega | decide) ?_) | (with_reducible refine frc_bytesL (by first | omega | decide) ?_) | refine And.intro rfl ?_)
      refine frc_win (i := k) (by omega) ?_
      (repeat first | refine And.intro (by omega) ?_ | refine And.intro (by decide) ?_ | (with_reducible refine frc_parts (by first | omega | decide) ?_) | (with_reducible refine frc_bytesL (by first | omega | decide) ?_) | refine And.intro rfl ?_)
      refine frc_bytesM (by omega) ?_
      (repeat first | refine And.intro (by omega) ?_ | refine And.intro (by decide) ?_ | (with_reducible refine frc_parts (by first | omega | decide) ?_) | (with_reducible refine frc_bytesL (by first | omega | decide) ?_) | refine And.intro rfl ?_)
      refine ⟨⟨by omega, by simp only [scale]; omega, by show (k + 1) * 1 ≤ 140737488355328; omega⟩, fun c3 hc3 => ?_⟩
      (repeat first | refine And.intro (by omega) ?_ | refine And.intro (by decide) ?_ | (with_reducible refine frc_parts (by first | omega | decide) ?_) | (with_reducible refine frc_bytesL (by first | omega | decide) ?_) | refine And.intro rfl ?_)
      refine ⟨some (k + 1, c3), [0, 1, 2, 3, 4, 5, 13], ⟨⟨rfl, rfl, rfl⟩, ?_⟩, ⟨by omega, by omega, by simpa using hc3⟩, by first | omega | (dsimp only; omega)⟩
      (repeat first | exact trivial | refine ⟨rfl, ?_⟩ | refine ⟨fun _ _ => ⟨rfl, trivial⟩, ?_⟩ | refine ⟨fun _ _ => trivial, ?_⟩ | refine ⟨by omega, ?_⟩ | refine ⟨fun _ _ => eqC_winS, ?_⟩ | refine ⟨fun _ _ => eqC_winM, ?_⟩ | refine ⟨fun _ _ => eqC_winB, ?_⟩ | refine ⟨fun _ _ => eqC_selfB, ?_⟩ | refine ⟨fun _ _ => eqC_mpB, ?_⟩)
      refine eqC_bts ?_
      (repeat first | exact trivial | refine ⟨rfl, ?_⟩ | refine ⟨fun _ _ => ⟨rfl, trivial⟩, ?_⟩ | refine ⟨fun _ _ => trivial, ?_⟩ | refine ⟨by omega, ?_⟩ | refine ⟨fun _ _ => eqC_winS, ?_⟩ | refine ⟨fun _ _ => eqC_winM, ?_⟩ | refine ⟨fun _ _ => eqC_winB, ?_⟩ | refine ⟨fun _ _ => eqC_selfB, ?_⟩ | refine ⟨fun _ _ => eqC_mpB, ?_⟩)
      refine ⟨fun j hj => eqC_bytes (fun i hi => ?_) j, trivial⟩
      · by_cases h2 : i < k
        · unfold appF
          rw [if_pos (by simpa [scale] using h2)]
          exact bytesF_lt h2
        · obtain rfl : i = k := by omega
          unfold appF
          rw [if_neg (by simp [scale]), if_pos (by simp [scale]), show i - scale i (0 + 1) = 0 by simp [scale]]
          have e9 : ((i : Int) % 16).toNat + 0 = i % 16 := by omega
          show SC.w8 (L b i ^^^ Y (((i : Int) % 16).toNat + 0)) = _
          rw [e9]
          exact congrArg SC.w8 hYc
    · have hkn : nh = k := by have : ¬ (k : Int) < nh := of_decide_eq_false h; omega
      subst hkn
      by_cases hna0 : na = 0
      · skip
        (repeat first | refine And.intro (by omega) ?_ | refine And.intro (by decide) ?_ | (with_reducible refine frc_parts (by first | omega | decide) ?_) | (with_reducible refine frc_bytesL (by first | omega | decide) ?_) | refine And.intro rfl ?_)
        refine call_same (fn_over za c1 16 Na oa na c1 16 ca h0 (fun _ => 0#8) H 0#128 e1 a hH hz00 he1 hc1 (by omega) hla hNa hca hza hna) [5, 7, 0] rfl (by (repeat first | exact trivial | refine ⟨rfl, ?_⟩ | refine ⟨fun _ _ => ⟨rfl, trivial⟩, ?_⟩ | refine ⟨fun _ _ => trivial, ?_⟩ | refine ⟨by omega, ?_⟩ | refine ⟨fun _ _ => eqC_winS, ?_⟩ | refine ⟨fun _ _ => eqC_winM, ?_⟩ | refine ⟨fun _ _ => eqC_winB, ?_⟩ | refine ⟨fun _ _ => eqC_selfB, ?_⟩ | refine ⟨fun _ _ => eqC_mpB, ?_⟩)) ?_ (fun _ _ => trivial) ?_
        · (repeat first | exact trivial | refine ⟨rfl, ?_⟩ | refine ⟨fun _ _ => ⟨rfl, trivial⟩, ?_⟩ | refine ⟨fun _ _ => trivial, ?_⟩ | refine ⟨by omega, ?_⟩ | refine ⟨fun _ _ => eqC_winS, ?_⟩ | refine ⟨fun _ _ => eqC_winM, ?_⟩ | refine ⟨fun _ _ => eqC_winB, ?_⟩ | refine ⟨fun _ _ => eqC_selfB, ?_⟩ | refine ⟨fun _ _ => eqC_mpB, ?_⟩)
          refine ⟨fun j hj => eqC_bytes (f := fun _ => SC.w8 0) (fun _ _ => rfl) j, ?_⟩
          refine eqC_bts ?_
          (repeat first | exact trivial | refine ⟨rfl, ?_⟩ | refine ⟨fun _ _ => ⟨rfl, trivial⟩, ?_⟩ | refine ⟨fun _ _ => trivial, ?_⟩ | refine ⟨by omega, ?_⟩ | refine ⟨fun _ _ => eqC_winS, ?_⟩ | refine ⟨fun _ _ => eqC_winM, ?_⟩ | refine ⟨fun _ _ => eqC_winB, ?_⟩ | refine ⟨fun _ _ => eqC_selfB, ?_⟩ | refine ⟨fun _ _ => eqC_mpB, ?_⟩)
        rintro x hs ⟨hx, _⟩
        obtain ⟨rfl, rfl⟩ := hx (by omega)
        have e10 : e1 = 0#128 := by rw [← he1]; exact hL_nil _ _ (by omega)
        have hz0 : toE (fun _ => 0#8) = e1 := by rw [e10]; exact hz00
        (repeat first | refine And.intro (by omega) ?_ | refine And.intro (by decide) ?_ | (with_reducible refine frc_parts (by first | omega | decide) ?_) | (with_reducible refine frc_bytesL (by first | omega | decide) ?_) | refine And.intro rfl ?_)
        refine call_same (fn_over false c1 16 c 0 nh c1 16 c h0 (fun _ => 0#8) H e1 e2 C hH hz0 he2 hc1 (by omega) hCl (by omega) (by omega) (fun h => Bool.noConfusion h) hnh) [5, 7, 6] rfl (by (repeat first | exact trivial | refine ⟨rfl, ?_⟩ | refine ⟨fun _ _ => ⟨rfl, trivial⟩, ?_⟩ | refine ⟨fun _ _ => trivial, ?_⟩ | refine ⟨by omega, ?_⟩ | refine ⟨fun _ _ => eqC_winS, ?_⟩ | refine ⟨fun _ _ => eqC_winM, ?_⟩ | refine ⟨fun _ _ => eqC_winB, ?_⟩ | refine ⟨fun _ _ => eqC_selfB, ?_⟩ | refine ⟨fun _ _ => eqC_mpB, ?_⟩)) ?_ (fun _ _ => trivial) ?_
        · (repeat first | exact trivial | refine ⟨rfl, ?_⟩ | refine ⟨fun _ _ => ⟨rfl, trivial⟩, ?_⟩ | refine ⟨fun _ _ => trivial, ?_⟩ | refine ⟨by omega, ?_⟩ | refine ⟨fun _ _ => eqC_winS, ?_⟩ | refine ⟨fun _ _ => eqC_winM, ?_⟩ | refine ⟨fun _ _ => eqC_winB, ?_⟩ | refine ⟨fun _ _ => eqC_selfB, ?_⟩ | refine ⟨fun _ _ => eqC_mpB, ?_⟩)
          refine ⟨fun j hj => eqC_bytes (f := fun _ => SC.w8 0) (fun _ _ => rfl) j, ?_⟩
          (repeat first | exact trivial | refine ⟨rfl, ?_⟩ | refine ⟨fun _ _ => ⟨rfl, trivial⟩, ?_⟩ | refine ⟨fun _ _ => trivial, ?_⟩ | refine ⟨by omega, ?_⟩ | refine ⟨fun _ _ => eqC_winS, ?_⟩ | refine ⟨fun _ _ => eqC_winM, ?_⟩ | refine ⟨fun _ _ => eqC_winB, ?_⟩ | refine ⟨fun _ _ => eqC_selfB, ?_⟩ | refine ⟨fun _ _ => eqC_mpB, ?_⟩)
        rintro x hs ⟨_, hx⟩
        obtain ⟨rfl, rfl⟩ := hx (by omega)
        (repeat first | refine And.intro (by omega) ?_ | refine And.intro (by decide) ?_ | (with_reducible refine frc_parts (by first | omega | decide) ?_) | (with_reducible refine frc_bytesL (by first | omega | decide) ?_) | refine And.intro rfl ?_)
        refine .inl ⟨Nat, fun i => ⟨[.a (.c (.sl 2 0 0 256 cb)), .a (.c (.sl 3 0 0 16 ck)), .a (.c (.sl 4 0 0 12 cn)), .a (.c (.sn za 0 0 oa na ca)), .any, .any, .any, .any, .any, .any, .any, .a (.c (.sl 5 0 0 16 c1)), .a (.c (.sl 6 0 0 nh c)), .any, .any, .any, .a (.c (.sl 7 0 0 16 16)), .a (.c (.sl 8 0 0 16 16)), .a (.c (.int .i64 (↑i))), .any, .any, .any, .any, .any, .any, .any, .any, .any, .any, .any, .any, .any, .any, .any, .any, .any, .any, .any, .any, .any, .any, .any, .any, .any, .any, .any, .any, .any, .any, .any, .any, .any, .any, .any, .any, .any, .any, .any, .any, .any, .any, .any, .any, .any, .any, .any, .any, .any, .any, .any, .any, .any, .any, .any, .any, .any, .any, .any, .any, .any, .any, .any, .any, .any, .any, .any, .any, .any, .any, .any, .any, .any, .any, .any, .any, .any, .any, .any, .any, .any, .any, .any, .any, .any, .any, .any, .any, .any, .any, .any, .any, .any, .any, .any, .any, .any, .any, .any, .any, .any, .any, .any, .any], [bts za Na oa na (L a), bts zh Nh oh nh (L b), [.row Nb (bytesF 256 boxes)], [.row Nk (bytesF 16 key)], [.row Nn (bytesF 12 nn)], [.row c1 (bytesF 16 h0)], [.row c (bytesF nh (L C))], rowE e2, [.row 16 fun j => .w8 (if 7 - j % 8 < i then G j else 0#8)]]⟩, fun i => i ≤ 8, fun i => 8 - i, ⟨0, [0, 1, 2, 3, 4, 5, 6, 8, 9], ⟨⟨rfl, rfl, rfl⟩, ?_⟩, by omega⟩, fun i hi => ⟨fun h => ?_, fun h => ?_⟩⟩
        · (repeat first | exact trivial | refine ⟨rfl, ?_⟩ | refine ⟨fun _ _ => ⟨rfl, trivial⟩, ?_⟩ | refine ⟨fun _ _ => trivial, ?_⟩ | refine ⟨by omega, ?_⟩ | refine ⟨fun _ _ => eqC_winS, ?_⟩ | refine ⟨fun _ _ => eqC_winM, ?_⟩ | refine ⟨fun _ _ => eqC_winB, ?_⟩ | refine ⟨fun _ _ => eqC_selfB, ?_⟩ | refine ⟨fun _ _ => eqC_mpB, ?_⟩)
          refine eqC_bts (eqC_bts ?_)
          (repeat first | exact trivial | refine ⟨rfl, ?_⟩ | refine ⟨fun _ _ => ⟨rfl, trivial⟩, ?_⟩ | refine ⟨fun _ _ => trivial, ?_⟩ | refine ⟨by omega, ?_⟩ | refine ⟨fun _ _ => eqC_winS, ?_⟩ | refine ⟨fun _ _ => eqC_winM, ?_⟩ | refine ⟨fun _ _ => eqC_winB, ?_⟩ | refine ⟨fun _ _ => eqC_selfB, ?_⟩ | refine ⟨fun _ _ => eqC_mpB, ?_⟩)
        · have hlt : (i : Int) < 8 := of_decide_eq_true h
          have hi8 : i < 8 := by omega
          (repeat first | refine And.intro (by omega) ?_ | refine And.intro (by decide) ?_ | (with_reducible refine frc_parts (by first | omega | decide) ?_) | (with_reducible refine frc_bytesL (by first | omega | decide) ?_) | refine And.intro rfl ?_)
          refine ⟨i + 1, [0, 1, 2, 3, 4, 5, 6, 7, 8], ⟨⟨rfl, rfl, rfl⟩, ?_⟩, by dsimp only; omega, by dsimp only; omega⟩
          (repeat first | exact trivial | refine ⟨rfl, ?_⟩ | refine ⟨fun _ _ => ⟨rfl, trivial⟩, ?_⟩ | refine ⟨fun _ _ => trivial, ?_⟩ | refine ⟨by omega, ?_⟩ | refine ⟨fun _ _ => eqC_winS, ?_⟩ | refine ⟨fun _ _ => eqC_winM, ?_⟩ | refine ⟨fun _ _ => eqC_winB, ?_⟩ | refine ⟨fun _ _ => eqC_selfB, ?_⟩ | refine ⟨fun _ _ => eqC_mpB, ?_⟩)
          refine eqC_bts (eqC_bts ?_)
          (repeat first | exact trivial | refine ⟨rfl, ?_⟩ | refine ⟨fun _ _ => ⟨rfl, trivial⟩, ?_⟩ | refine ⟨fun _ _ => trivial, ?_⟩ | refine ⟨by omega, ?_⟩ | refine ⟨fun _ _ => eqC_winS, ?_⟩ | refine ⟨fun _ _ => eqC_winM, ?_⟩ | refine ⟨fun _ _ => eqC_winB, ?_⟩ | refine ⟨fun _ _ => eqC_selfB, ?_⟩ | refine ⟨fun _ _ => eqC_mpB, ?_⟩)
          refine ⟨fun j hj => eqC_w8 ?_, trivial⟩
          have f1 : (7 - (i : Int)).toNat + 0 = 7 - i := by omega
          have f2 : (15 - (i : Int)).toNat + 0 = 15 - i := by omega
          have g1 := long_hi na nh i hi8 (by omega)
          have g2 := long_lo na nh nh rfl i hi8 (by omega)
          rw [hG] at g1 g2
          rw [f1, f2]
          unfold upd
          by_cases h1 : j = 15 - i
          · rw [if_pos h1, if_pos (by omega), h1, ← g2]
          rw [if_neg h1]
          by_cases h2 : j = 7 - i
          · rw [if_pos h2, if_pos (by omega), h2, ← g1]
          rw [if_neg h2]
          have : 7 - j % 8 < i ↔ 7 - j % 8 < i + 1 := by omega
          simp only [this]
        · obtain rfl : i = 8 := by have : ¬ (i : Int) < 8 := of_decide_eq_false h; have hi : i ≤ 8 := hi; omega
          (repeat first | refine And.intro (by omega) ?_ | refine And.intro (by decide) ?_ | (with_reducible refine frc_parts (by first | omega | decide) ?_) | (with_reducible refine frc_bytesL (by first | omega | decide) ?_) | refine And.intro rfl ?_)
          refine call_same (fn_over false c1 16 16 0 16 c1 16 16 h0 (byE e2) H e2 e3 (tab 16 G) hH (toE_byE _) he3 hc1 (by omega) (tab_len _ _) (by omega) (by omega) (fun h => Bool.noConfusion h) (by omega)) [5, 7, 8] rfl (by (repeat first | exact trivial | refine ⟨rfl, ?_⟩ | refine ⟨fun _ _ => ⟨rfl, trivial⟩, ?_⟩ | refine ⟨fun _ _ => trivial, ?_⟩ | refine ⟨by omega, ?_⟩ | refine ⟨fun _ _ => eqC_winS, ?_⟩ | refine ⟨fun _ _ => eqC_winM, ?_⟩ | refine ⟨fun _ _ => eqC_winB, ?_⟩ | refine ⟨fun _ _ => eqC_selfB, ?_⟩ | refine ⟨fun _ _ => eqC_mpB, ?_⟩)) ?_ (fun _ _ => trivial) ?_
          · (repeat first | exact trivial | refine ⟨rfl, ?_⟩ | refine ⟨fun _ _ => ⟨rfl, trivial⟩, ?_⟩ | refine ⟨fun _ _ => trivial, ?_⟩ | refine ⟨by omega, ?_⟩ | refine ⟨fun _ _ => eqC_winS, ?_⟩ | refine ⟨fun _ _ => eqC_winM, ?_⟩ | refine ⟨fun _ _ => eqC_winB, ?_⟩ | refine ⟨fun _ _ => eqC_selfB, ?_⟩ | refine ⟨fun _ _ => eqC_mpB, ?_⟩)
            refine ⟨fun j hj => eqC_bytes (f := fun j => SC.w8 (byE e2 j)) (fun _ _ => rfl) j, ?_⟩
            (repeat first | exact trivial | refine ⟨rfl, ?_⟩ | refine ⟨fun _ _ => ⟨rfl, trivial⟩, ?_⟩ | refine ⟨fun _ _ => trivial, ?_⟩ | refine ⟨by omega, ?_⟩ | refine ⟨fun _ _ => eqC_winS, ?_⟩ | refine ⟨fun _ _ => eqC_winM, ?_⟩ | refine ⟨fun _ _ => eqC_winB, ?_⟩ | refine ⟨fun _ _ => eqC_selfB, ?_⟩ | refine ⟨fun _ _ => eqC_mpB, ?_⟩)
            exact ⟨fun j hj => eqC_win8 (b := fun j => if 7 - j % 8 < 8 then G j else 0#8) (fun i hi => by rw [if_pos (by omega), L_tab hi]) j, trivial⟩
          rintro x hs ⟨_, hx⟩
          obtain ⟨rfl, rfl⟩ := hx (by omega)
          (repeat first | refine And.intro (by omega) ?_ | refine And.intro (by decide) ?_ | (with_reducible refine frc_parts (by first | omega | decide) ?_) | (with_reducible refine frc_bytesL (by first | omega | decide) ?_) | refine And.intro rfl ?_)
          refine ⟨by simp only [scale]; omega, ⟨by decide, by decide, by decide⟩, fun d1 hd1 => ?_⟩
          have r1 : ∀ i, i < 0 + 12 → appF (nthC []) 0 (scale 0 (0 + 1)) (scale 12 (0 + 1)) (fun q => bytesF 12 nn (q + 0)) i = .w8 (L ([] ++ tab 12 nn) i) := app_row (n := 0) (k := 12) rfl (tab_len _ _) (fun i hi => absurd hi (by omega)) (fun i hi => by rw [L_tab hi]; exact bytesF_lt hi)
          rw [List.nil_append] at r1
          (repeat first | refine And.intro (by omega) ?_ | refine And.intro (by decide) ?_ | (with_reducible refine frc_parts (by first | omega | decide) ?_) | (with_reducible refine frc_bytesL (by first | omega | decide) ?_) | refine And.intro rfl ?_)
          refine ⟨⟨by omega, by simp only [scale]; omega, by decide⟩, fun d2 hd2 => ?_⟩
          have r2 := app_row (n := 0 + 12) (k := 4) (m := [0#8, 0#8, BitVec.ofInt 8 (((1 : Nat) : Int) / 256), BitVec.ofInt 8 ((1 : Nat) : Int)]) (g := nthC [.w8 0, .w8 0, .w8 0, .w8 1]) (tab_len _ _) rfl r1 (fun i hi => by
            have : i = 0 ∨ i = 1 ∨ i = 2 ∨ i = 3 := by omega
            rcases this with rfl | rfl | rfl | rfl <;> rfl)
          have hd2' : 16 ≤ d2 := hd2
          (repeat first | refine And.intro (by omega) ?_ | refine And.intro (by decide) ?_ | (with_reducible refine frc_parts (by first | omega | decide) ?_) | (with_reducible refine frc_bytesL (by first | omega | decide) ?_) | refine And.intro rfl ?_)
          refine call_same (fn_rturn' key (ctrB nn (BitVec.ofNat 32 1)) E hE Nb Nk d2 cb ck d2 hNb hNk hd2') [2, 3, 13] rfl (by (repeat first | exact trivial | refine ⟨rfl, ?_⟩ | refine ⟨fun _ _ => ⟨rfl, trivial⟩, ?_⟩ | refine ⟨fun _ _ => trivial, ?_⟩ | refine ⟨by omega, ?_⟩ | refine ⟨fun _ _ => eqC_winS, ?_⟩ | refine ⟨fun _ _ => eqC_winM, ?_⟩ | refine ⟨fun _ _ => eqC_winB, ?_⟩ | refine ⟨fun _ _ => eqC_selfB, ?_⟩ | refine ⟨fun _ _ => eqC_mpB, ?_⟩)) ?_ (fun _ _ => trivial) ?_
          · (repeat first | exact trivial | refine ⟨rfl, ?_⟩ | refine ⟨fun _ _ => ⟨rfl, trivial⟩, ?_⟩ | refine ⟨fun _ _ => trivial, ?_⟩ | refine ⟨by omega, ?_⟩ | refine ⟨fun _ _ => eqC_winS, ?_⟩ | refine ⟨fun _ _ => eqC_winM, ?_⟩ | refine ⟨fun _ _ => eqC_winB, ?_⟩ | refine ⟨fun _ _ => eqC_selfB, ?_⟩ | refine ⟨fun _ _ => eqC_mpB, ?_⟩)
            refine ⟨fun j hj => eqC_bytes (fun i hi => ?_) j, trivial⟩
            refine (r2 i hi).trans (congrArg SC.w8 (ctr_ref nn 1 (by omega) i hi))
          rintro x hs ⟨c5, rfl, rfl, hc5⟩
          rw [hY]
          (repeat first | refine And.intro (by omega) ?_ | refine And.intro (by decide) ?_ | (with_reducible refine frc_parts (by first | omega | decide) ?_) | (with_reducible refine frc_bytesL (by first | omega | decide) ?_) | refine And.intro rfl ?_)
          refine .inl ⟨Nat × Nat, fun (i, c) => ⟨[.a (.c (.sl 2 0 0 256 cb)), .any, .any, .any, .any, .any, .any, .any, .any, .any, .any, .any, .a (.c (.sl 7 0 0 (nh + i) c)), .any, .any, .any, .a (.c (.sl 5 0 0 16 16)), .any, .any, .a (.c (.sl 6 0 0 16 c5)), .a (.c (.int .i64 (↑i))), .any, .any, .any, .any, .any, .any, .any, .any, .any, .any, .any, .any, .any, .any, .any, .any, .any, .any, .any, .any, .any, .any, .any, .any, .any, .any, .any, .any, .any, .any, .any, .any, .any, .any, .any, .any, .any, .any, .any, .any, .any, .any, .any, .any, .any, .any, .any, .any, .any, .any, .any, .any, .any, .any, .any, .any, .any, .any, .any, .any, .any, .any, .any, .any, .any, .any, .any, .any, .any, .any, .any, .any, .any, .any, .any, .any, .any, .any, .any, .any, .any, .any, .any, .any, .any, .any, .any, .any, .any, .any, .any, .any, .any, .any, .any, .any, .any, .any, .any, .any, .any, .any], [bts za Na oa na (L a), bts zh Nh oh nh (L b), [.row Nb (bytesF 256 boxes)], [.row Nk (bytesF 16 key)], [.row Nn (bytesF 12 nn)], rowE e3, [.row c5 (bytesF 16 Y)], [.row c (bytesF (nh + i) (L S))]]⟩, fun (i, c) => i ≤ 16 ∧ nh + i ≤ c, fun (i, _) => 16 - i, ⟨(0, c), [0, 1, 2, 3, 4, 9, 14, 6], ⟨⟨rfl, rfl, rfl⟩, ?_⟩, by omega, by omega⟩, fun (i, c) ⟨hi, hc⟩ => ⟨fun h => ?_, fun h => ?_⟩⟩
          · (repeat first | exact trivial | refine ⟨rfl, ?_⟩ | refine ⟨fun _ _ => ⟨rfl, trivial⟩, ?_⟩ | refine ⟨fun _ _ => trivial, ?_⟩ | refine ⟨by omega, ?_⟩ | refine ⟨fun _ _ => eqC_winS, ?_⟩ | refine ⟨fun _ _ => eqC_winM, ?_⟩ | refine ⟨fun _ _ => eqC_winB, ?_⟩ | refine ⟨fun _ _ => eqC_selfB, ?_⟩ | refine ⟨fun _ _ => eqC_mpB, ?_⟩)
            refine eqC_bts (eqC_bts ?_)
            (repeat first | exact trivial | refine ⟨rfl, ?_⟩ | refine ⟨fun _ _ => ⟨rfl, trivial⟩, ?_⟩ | refine ⟨fun _ _ => trivial, ?_⟩ | refine ⟨by omega, ?_⟩ | refine ⟨fun _ _ => eqC_winS, ?_⟩ | refine ⟨fun _ _ => eqC_winM, ?_⟩ | refine ⟨fun _ _ => eqC_winB, ?_⟩ | refine ⟨fun _ _ => eqC_selfB, ?_⟩ | refine ⟨fun _ _ => eqC_mpB, ?_⟩)
            refine ⟨fun j hj => eqC_bytes (fun i hi => ?_) j, trivial⟩
            rw [bytesF_lt (by omega), hSC i (by omega)]
          · have hlt : i < 16 := by have : (i : Int) < 16 := of_decide_eq_true h; omega
            refine ⟨none, [], [(0, true), (1, true), (2, true), (3, true), (4, true), (5, true), (6, true), (7, true), (8, true), (9, true), (10, false)], [11, 12], by kernel_rfl, ?_⟩
            (repeat first | refine And.intro (by omega) ?_ | refine And.intro (by decide) ?_ | (with_reducible refine frc_parts (by first | omega | decide) ?_) | (with_reducible refine frc_bytesL (by first | omega | decide) ?_) | refine And.intro rfl ?_)
            refine ⟨⟨by omega, by simp only [scale]; omega, by show (nh + i + 1) * 1 ≤ 140737488355328; omega⟩, fun c3 hc3 => ?_⟩
            (repeat first | refine And.intro (by omega) ?_ | refine And.intro (by decide) ?_ | (with_reducible refine frc_parts (by first | omega | decide) ?_) | (with_reducible refine frc_bytesL (by first | omega | decide) ?_) | refine And.intro rfl ?_)
            refine ⟨(i + 1, c3), [0, 1, 2, 3, 4, 5, 6, 9], ⟨⟨rfl, rfl, rfl⟩, ?_⟩, ⟨by omega, by have hc3' : nh + i + 1 ≤ c3 := hc3; omega⟩, by first | omega | (dsimp only; omega)⟩
            (repeat first | exact trivial | refine ⟨rfl, ?_⟩ | refine ⟨fun _ _ => ⟨rfl, trivial⟩, ?_⟩ | refine ⟨fun _ _ => trivial, ?_⟩ | refine ⟨by omega, ?_⟩ | refine ⟨fun _ _ => eqC_winS, ?_⟩ | refine ⟨fun _ _ => eqC_winM, ?_⟩ | refine ⟨fun _ _ => eqC_winB, ?_⟩ | refine ⟨fun _ _ => eqC_selfB, ?_⟩ | refine ⟨fun _ _ => eqC_mpB, ?_⟩)
            refine eqC_bts (eqC_bts ?_)
            (repeat first | exact trivial | refine ⟨rfl, ?_⟩ | refine ⟨fun _ _ => ⟨rfl, trivial⟩, ?_⟩ | refine ⟨fun _ _ => trivial, ?_⟩ | refine ⟨by omega, ?_⟩ | refine ⟨fun _ _ => eqC_winS, ?_⟩ | refine ⟨fun _ _ => eqC_winM, ?_⟩ | refine ⟨fun _ _ => eqC_winB, ?_⟩ | refine ⟨fun _ _ => eqC_selfB, ?_⟩ | refine ⟨fun _ _ => eqC_mpB, ?_⟩)
            refine ⟨fun j hj => eqC_bytes (fun q hi => ?_) j, trivial⟩
            · by_cases h2 : q < nh + i
              · unfold appF
                rw [if_pos (by simpa [scale] using h2)]
                exact bytesF_lt h2
              · have hq : q = nh + i := by omega
                rw [hq]
                unfold appF
                rw [if_neg (by simp [scale]), if_pos (by simp [scale]), show nh + i - scale (nh + i) (0 + 1) = 0 by simp [scale]]
                have e9 : (i : Int).toNat + 0 = i := by omega
                show SC.w8 (byE e3 ((i : Int).toNat + 0) ^^^ Y ((i : Int).toNat + 0)) = _
                rw [e9, hTs i (by omega)]
          · obtain rfl : i = 16 := by have : ¬ (i : Int) < 16 := of_decide_eq_false h; omega
            refine ⟨.a (.c (.sl 5 0 0 (nh + 16) c)), _, ⟨[0, 1, 2, 3, 4, 7], ⟨rfl, rfl, rfl⟩, ?_⟩, c, by omega, rfl, rfl⟩
            (repeat first | exact trivial | refine ⟨rfl, ?_⟩ | refine ⟨fun _ _ => ⟨rfl, trivial⟩, ?_⟩ | refine ⟨fun _ _ => trivial, ?_⟩ | refine ⟨by omega, ?_⟩ | refine ⟨fun _ _ => eqC_winS, ?_⟩ | refine ⟨fun _ _ => eqC_winM, ?_⟩ | refine ⟨fun _ _ => eqC_winB, ?_⟩ | refine ⟨fun _ _ => eqC_selfB, ?_⟩ | refine ⟨fun _ _ => eqC_mpB, ?_⟩)
            refine eqC_bts (eqC_bts ?_)
            (repeat first | exact trivial | refine ⟨rfl, ?_⟩ | refine ⟨fun _ _ => ⟨rfl, trivial⟩, ?_⟩ | refine ⟨fun _ _ => trivial, ?_⟩ | refine ⟨by omega, ?_⟩ | refine ⟨fun _ _ => eqC_winS, ?_⟩ | refine ⟨fun _ _ => eqC_winM, ?_⟩ | refine ⟨fun _ _ => eqC_winB, ?_⟩ | refine ⟨fun _ _ => eqC_selfB, ?_⟩ | refine ⟨fun _ _ => eqC_mpB, ?_⟩)
      · skip
        (repeat first | refine And.intro (by omega) ?_ | refine And.intro (by decide) ?_ | (with_reducible refine frc_parts (by first | omega | decide) ?_) | (with_reducible refine frc_bytesL (by first | omega | decide) ?_) | refine And.intro rfl ?_)
        refine call_same (fn_over za c1 16 Na oa na c1 16 ca h0 (fun _ => 0#8) H 0#128 e1 a hH hz00 he1 hc1 (by omega) hla hNa hca hza hna) [5, 7, 0] rfl (by (repeat first | exact trivial | refine ⟨rfl, ?_⟩ | refine ⟨fun _ _ => ⟨rfl, trivial⟩, ?_⟩ | refine ⟨fun _ _ => trivial, ?_⟩ | refine ⟨by omega, ?_⟩ | refine ⟨fun _ _ => eqC_winS, ?_⟩ | refine ⟨fun _ _ => eqC_winM, ?_⟩ | refine ⟨fun _ _ => eqC_winB, ?_⟩ | refine ⟨fun _ _ => eqC_selfB, ?_⟩ | refine ⟨fun _ _ => eqC_mpB, ?_⟩)) ?_ (fun _ _ => trivial) ?_
        · (repeat first | exact trivial | refine ⟨rfl, ?_⟩ | refine ⟨fun _ _ => ⟨rfl, trivial⟩, ?_⟩ | refine ⟨fun _ _ => trivial, ?_⟩ | refine ⟨by omega, ?_⟩ | refine ⟨fun _ _ => eqC_winS, ?_⟩ | refine ⟨fun _ _ => eqC_winM, ?_⟩ | refine ⟨fun _ _ => eqC_winB, ?_⟩ | refine ⟨fun _ _ => eqC_selfB, ?_⟩ | refine ⟨fun _ _ => eqC_mpB, ?_⟩)
          refine ⟨fun j hj => eqC_bytes (f := fun _ => SC.w8 0) (fun _ _ => rfl) j, ?_⟩
          refine eqC_bts ?_
          (repeat first | exact trivial | refine ⟨rfl, ?_⟩ | refine ⟨fun _ _ => ⟨rfl, trivial⟩, ?_⟩ | refine ⟨fun _ _ => trivial, ?_⟩ | refine ⟨by omega, ?_⟩ | refine ⟨fun _ _ => eqC_winS, ?_⟩ | refine ⟨fun _ _ => eqC_winM, ?_⟩ | refine ⟨fun _ _ => eqC_winB, ?_⟩ | refine ⟨fun _ _ => eqC_selfB, ?_⟩ | refine ⟨fun _ _ => eqC_mpB, ?_⟩)
        rintro x hs ⟨_, hx⟩
        obtain ⟨rfl, rfl⟩ := hx (by omega)
        (repeat first | refine And.intro (by omega) ?_ | refine And.intro (by decide) ?_ | (with_reducible refine frc_parts (by first | omega | decide) ?_) | (with_reducible refine frc_bytesL (by first | omega | decide) ?_) | refine And.intro rfl ?_)
        refine call_same (fn_over false c1 16 c 0 nh c1 16 c h0 (byE e1) H e1 e2 C hH (toE_byE _) he2 hc1 (by omega) hCl (by omega) (by omega) (fun h => Bool.noConfusion h) hnh) [5, 8, 6] rfl (by (repeat first | exact trivial | refine ⟨rfl, ?_⟩ | refine ⟨fun _ _ => ⟨rfl, trivial⟩, ?_⟩ | refine ⟨fun _ _ => trivial, ?_⟩ | refine ⟨by omega, ?_⟩ | refine ⟨fun _ _ => eqC_winS, ?_⟩ | refine ⟨fun _ _ => eqC_winM, ?_⟩ | refine ⟨fun _ _ => eqC_winB, ?_⟩ | refine ⟨fun _ _ => eqC_selfB, ?_⟩ | refine ⟨fun _ _ => eqC_mpB, ?_⟩)) ?_ (fun _ _ => trivial) ?_
        · (repeat first | exact trivial | refine ⟨rfl, ?_⟩ | refine ⟨fun _ _ => ⟨rfl, trivial⟩, ?_⟩ | refine ⟨fun _ _ => trivial, ?_⟩ | refine ⟨by omega, ?_⟩ | refine ⟨fun _ _ => eqC_winS, ?_⟩ | refine ⟨fun _ _ => eqC_winM, ?_⟩ | refine ⟨fun _ _ => eqC_winB, ?_⟩ | refine ⟨fun _ _ => eqC_selfB, ?_⟩ | refine ⟨fun _ _ => eqC_mpB, ?_⟩)
          refine ⟨fun j hj => eqC_bytes (f := fun j => SC.mp _ (SC.w8 (byE e1 j))) (fun _ _ => rfl) j, ?_⟩
          (repeat first | exact trivial | refine ⟨rfl, ?_⟩ | refine ⟨fun _ _ => ⟨rfl, trivial⟩, ?_⟩ | refine ⟨fun _ _ => trivial, ?_⟩ | refine ⟨by omega, ?_⟩ | refine ⟨fun _ _ => eqC_winS, ?_⟩ | refine ⟨fun _ _ => eqC_winM, ?_⟩ | refine ⟨fun _ _ => eqC_winB, ?_⟩ | refine ⟨fun _ _ => eqC_selfB, ?_⟩ | refine ⟨fun _ _ => eqC_mpB, ?_⟩)
        rintro x hs ⟨_, hx⟩
        obtain ⟨rfl, rfl⟩ := hx (by omega)
        (repeat first | refine And.intro (by omega) ?_ | refine And.intro (by decide) ?_ | (with_reducible refine frc_parts (by first | omega | decide) ?_) | (with_reducible refine frc_bytesL (by first | omega | decide) ?_) | refine And.intro rfl ?_)
        refine .inl ⟨Nat, fun i => ⟨[.a (.c (.sl 2 0 0 256 cb)), .a (.c (.sl 3 0 0 16 ck)), .a (.c (.sl 4 0 0 12 cn)), .a (.c (.sn za 0 0 oa na ca)), .any, .any, .any, .any, .any, .any, .any, .a (.c (.sl 5 0 0 16 c1)), .a (.c (.sl 6 0 0 nh c)), .any, .any, .any, .a (.c (.sl 7 0 0 16 16)), .a (.c (.sl 8 0 0 16 16)), .a (.c (.int .i64 (↑i))), .any, .any, .any, .any, .any, .any, .any, .any, .any, .any, .any, .any, .any, .any, .any, .any, .any, .any, .any, .any, .any, .any, .any, .any, .any, .any, .any, .any, .any, .any, .any, .any, .any, .any, .any, .any, .any, .any, .any, .any, .any, .any, .any, .any, .any, .any, .any, .any, .any, .any, .any, .any, .any, .any, .any, .any, .any, .any, .any, .any, .any, .any, .any, .any, .any, .any, .any, .any, .any, .any, .any, .any, .any, .any, .any, .any, .any, .any, .any, .any, .any, .any, .any, .any, .any, .any, .any, .any, .any, .any, .any, .any, .any, .any, .any, .any, .any, .any, .any, .any, .any, .any, .any, .any], [bts za Na oa na (L a), bts zh Nh oh nh (L b), [.row Nb (bytesF 256 boxes)], [.row Nk (bytesF 16 key)], [.row Nn (bytesF 12 nn)], [.row c1 (bytesF 16 h0)], [.row c (bytesF nh (L C))], rowE e2, [.row 16 fun j => .w8 (if 7 - j % 8 < i then G j else 0#8)]]⟩, fun i => i ≤ 8, fun i => 8 - i, ⟨0, [0, 1, 2, 3, 4, 5, 6, 9, 10], ⟨⟨rfl, rfl, rfl⟩, ?_⟩, by omega⟩, fun i hi => ⟨fun h => ?_, fun h => ?_⟩⟩
        · (repeat first | exact trivial | refine ⟨rfl, ?_⟩ | refine ⟨fun _ _ => ⟨rfl, trivial⟩, ?_⟩ | refine ⟨fun _ _ => trivial, ?_⟩ | refine ⟨by omega, ?_⟩ | refine ⟨fun _ _ => eqC_winS, ?_⟩ | refine ⟨fun _ _ => eqC_winM, ?_⟩ | refine ⟨fun _ _ => eqC_winB, ?_⟩ | refine ⟨fun _ _ => eqC_selfB, ?_⟩ | refine ⟨fun _ _ => eqC_mpB, ?_⟩)
          refine eqC_bts (eqC_bts ?_)
          (repeat first | exact trivial | refine ⟨rfl, ?_⟩ | refine ⟨fun _ _ => ⟨rfl, trivial⟩, ?_⟩ | refine ⟨fun _ _ => trivial, ?_⟩ | refine ⟨by omega, ?_⟩ | refine ⟨fun _ _ => eqC_winS, ?_⟩ | refine ⟨fun _ _ => eqC_winM, ?_⟩ | refine ⟨fun _ _ => eqC_winB, ?_⟩ | refine ⟨fun _ _ => eqC_selfB, ?_⟩ | refine ⟨fun _ _ => eqC_mpB, ?_⟩)
        · have hlt : (i : Int) < 8 := of_decide_eq_true h
          have hi8 : i < 8 := by omega
          (repeat first | refine And.intro (by omega) ?_ | refine And.intro (by decide) ?_ | (with_reducible refine frc_parts (by first | omega | decide) ?_) | (with_reducible refine frc_bytesL (by first | omega | decide) ?_) | refine And.intro rfl ?_)
          refine ⟨i + 1, [0, 1, 2, 3, 4, 5, 6, 7, 8], ⟨⟨rfl, rfl, rfl⟩, ?_⟩, by dsimp only; omega, by dsimp only; omega⟩
          (repeat first | exact trivial | refine ⟨rfl, ?_⟩ | refine ⟨fun _ _ => ⟨rfl, trivial⟩, ?_⟩ | refine ⟨fun _ _ => trivial, ?_⟩ | refine ⟨by omega, ?_⟩ | refine ⟨fun _ _ => eqC_winS, ?_⟩ | refine ⟨fun _ _ => eqC_winM, ?_⟩ | refine ⟨fun _ _ => eqC_winB, ?_⟩ | refine ⟨fun _ _ => eqC_selfB, ?_⟩ | refine ⟨fun _ _ => eqC_mpB, ?_⟩)
          refine eqC_bts (eqC_bts ?_)
          (repeat first | exact trivial | refine ⟨rfl, ?_⟩ | refine ⟨fun _ _ => ⟨rfl, trivial⟩, ?_⟩ | refine ⟨fun _ _ => trivial, ?_⟩ | refine ⟨by omega, ?_⟩ | refine ⟨fun _ _ => eqC_winS, ?_⟩ | refine ⟨fun _ _ => eqC_winM, ?_⟩ | refine ⟨fun _ _ => eqC_winB, ?_⟩ | refine ⟨fun _ _ => eqC_selfB, ?_⟩ | refine ⟨fun _ _ => eqC_mpB, ?_⟩)
          refine ⟨fun j hj => eqC_w8 ?_, trivial⟩
          have f1 : (7 - (i : Int)).toNat + 0 = 7 - i := by omega
          have f2 : (15 - (i : Int)).toNat + 0 = 15 - i := by omega
          have g1 := long_hi na nh i hi8 (by omega)
          have g2 := long_lo na nh nh rfl i hi8 (by omega)
          rw [hG] at g1 g2
          rw [f1, f2]
          unfold upd
          by_cases h1 : j = 15 - i
          · rw [if_pos h1, if_pos (by omega), h1, ← g2]
          rw [if_neg h1]
          by_cases h2 : j = 7 - i
          · rw [if_pos h2, if_pos (by omega), h2, ← g1]
          rw [if_neg h2]
          have : 7 - j % 8 < i ↔ 7 - j % 8 < i + 1 := by omega
          simp only [this]
        · obtain rfl : i = 8 := by have : ¬ (i : Int) < 8 := of_decide_eq_false h; have hi : i ≤ 8 := hi; omega
          (repeat first | refine And.intro (by omega) ?_ | refine And.intro (by decide) ?_ | (with_reducible refine frc_parts (by first | omega | decide) ?_) | (with_reducible refine frc_bytesL (by first | omega | decide) ?_) | refine And.intro rfl ?_)
          refine call_same (fn_over false c1 16 16 0 16 c1 16 16 h0 (byE e2) H e2 e3 (tab 16 G) hH (toE_byE _) he3 hc1 (by omega) (tab_len _ _) (by omega) (by omega) (fun h => Bool.noConfusion h) (by omega)) [5, 7, 8] rfl (by (repeat first | exact trivial | refine ⟨rfl, ?_⟩ | refine ⟨fun _ _ => ⟨rfl, trivial⟩, ?_⟩ | refine ⟨fun _ _ => trivial, ?_⟩ | refine ⟨by omega, ?_⟩ | refine ⟨fun _ _ => eqC_winS, ?_⟩ | refine ⟨fun _ _ => eqC_winM, ?_⟩ | refine ⟨fun _ _ => eqC_winB, ?_⟩ | refine ⟨fun _ _ => eqC_selfB, ?_⟩ | refine ⟨fun _ _ => eqC_mpB, ?_⟩)) ?_ (fun _ _ => trivial) ?_
          · (repeat first | exact trivial | refine ⟨rfl, ?_⟩ | refine ⟨fun _ _ => ⟨rfl, trivial⟩, ?_⟩ | refine ⟨fun _ _ => trivial, ?_⟩ | refine ⟨by omega, ?_⟩ | refine ⟨fun _ _ => eqC_winS, ?_⟩ | refine ⟨fun _ _ => eqC_winM, ?_⟩ | refine ⟨fun _ _ => eqC_winB, ?_⟩ | refine ⟨fun _ _ => eqC_selfB, ?_⟩ | refine ⟨fun _ _ => eqC_mpB, ?_⟩)
            refine ⟨fun j hj => eqC_bytes (f := fun j => SC.w8 (byE e2 j)) (fun _ _ => rfl) j, ?_⟩
            (repeat first | exact trivial | refine ⟨rfl, ?_⟩ | refine ⟨fun _ _ => ⟨rfl, trivial⟩, ?_⟩ | refine ⟨fun _ _ => trivial, ?_⟩ | refine ⟨by omega, ?_⟩ | refine ⟨fun _ _ => eqC_winS, ?_⟩ | refine ⟨fun _ _ => eqC_winM, ?_⟩ | refine ⟨fun _ _ => eqC_winB, ?_⟩ | refine ⟨fun _ _ => eqC_selfB, ?_⟩ | refine ⟨fun _ _ => eqC_mpB, ?_⟩)
            exact ⟨fun j hj => eqC_win8 (b := fun j => if 7 - j % 8 < 8 then G j else 0#8) (fun i hi => by rw [if_pos (by omega), L_tab hi]) j, trivial⟩
          rintro x hs ⟨_, hx⟩
          obtain ⟨rfl, rfl⟩ := hx (by omega)
          (repeat first | refine And.intro (by omega) ?_ | refine And.intro (by decide) ?_ | (with_reducible refine frc_parts (by first | omega | decide) ?_) | (with_reducible refine frc_bytesL (by first | omega | decide) ?_) | refine And.intro rfl ?_)
          refine ⟨by simp only [scale]; omega, ⟨by decide, by decide, by decide⟩, fun d1 hd1 => ?_⟩
          have r1 : ∀ i, i < 0 + 12 → appF (nthC []) 0 (scale 0 (0 + 1)) (scale 12 (0 + 1)) (fun q => bytesF 12 nn (q + 0)) i = .w8 (L ([] ++ tab 12 nn) i) := app_row (n := 0) (k := 12) rfl (tab_len _ _) (fun i hi => absurd hi (by omega)) (fun i hi => by rw [L_tab hi]; exact bytesF_lt hi)
          rw [List.nil_append] at r1
          (repeat first | refine And.intro (by omega) ?_ | refine And.intro (by decide) ?_ | (with_reducible refine frc_parts (by first | omega | decide) ?_) | (with_reducible refine frc_bytesL (by first | omega | decide) ?_) | refine And.intro rfl ?_)
          refine ⟨⟨by omega, by simp only [scale]; omega, by decide⟩, fun d2 hd2 => ?_⟩
          have r2 := app_row (n := 0 + 12) (k := 4) (m := [0#8, 0#8, BitVec.ofInt 8 (((1 : Nat) : Int) / 256), BitVec.ofInt 8 ((1 : Nat) : Int)]) (g := nthC [.w8 0, .w8 0, .w8 0, .w8 1]) (tab_len _ _) rfl r1 (fun i hi => by
            have : i = 0 ∨ i = 1 ∨ i = 2 ∨ i = 3 := by omega
            rcases this with rfl | rfl | rfl | rfl <;> rfl)
          have hd2' : 16 ≤ d2 := hd2
          (repeat first | refine And.intro (by omega) ?_ | refine And.intro (by decide) ?_ | (with_reducible refine frc_parts (by first | omega | decide) ?_) | (with_reducible refine frc_bytesL (by first | omega | decide) ?_) | refine And.intro rfl ?_)
          refine call_same (fn_rturn' key (ctrB nn (BitVec.ofNat 32 1)) E hE Nb Nk d2 cb ck d2 hNb hNk hd2') [2, 3, 13] rfl (by (repeat first | exact trivial | refine ⟨rfl, ?_⟩ | refine ⟨fun _ _ => ⟨rfl, trivial⟩, ?_⟩ | refine ⟨fun _ _ => trivial, ?_⟩ | refine ⟨by omega, ?_⟩ | refine ⟨fun _ _ => eqC_winS, ?_⟩ | refine ⟨fun _ _ => eqC_winM, ?_⟩ | refine ⟨fun _ _ => eqC_winB, ?_⟩ | refine ⟨fun _ _ => eqC_selfB, ?_⟩ | refine ⟨fun _ _ => eqC_mpB, ?_⟩)) ?_ (fun _ _ => trivial) ?_
          · (repeat first | exact trivial | refine ⟨rfl, ?_⟩ | refine ⟨fun _ _ => ⟨rfl, trivial⟩, ?_⟩ | refine ⟨fun _ _ => trivial, ?_⟩ | refine ⟨by omega, ?_⟩ | refine ⟨fun _ _ => eqC_winS, ?_⟩ | refine ⟨fun _ _ => eqC_winM, ?_⟩ | refine ⟨fun _ _ => eqC_winB, ?_⟩ | refine ⟨fun _ _ => eqC_selfB, ?_⟩ | refine ⟨fun _ _ => eqC_mpB, ?_⟩)
            refine ⟨fun j hj => eqC_bytes (fun i hi => ?_) j, trivial⟩
            refine (r2 i hi).trans (congrArg SC.w8 (ctr_ref nn 1 (by omega) i hi))
          rintro x hs ⟨c5, rfl, rfl, hc5⟩
          rw [hY]
          (repeat first | refine And.intro (by omega) ?_ | refine And.intro (by decide) ?_ | (with_reducible refine frc_parts (by first | omega | decide) ?_) | (with_reducible refine frc_bytesL (by first | omega | decide) ?_) | refine And.intro rfl ?_)
          refine .inl ⟨Nat × Nat, fun (i, c) => ⟨[.a (.c (.sl 2 0 0 256 cb)), .any, .any, .any, .any, .any, .any, .any, .any, .any, .any, .any, .a (.c (.sl 7 0 0 (nh + i) c)), .any, .any, .any, .a (.c (.sl 5 0 0 16 16)), .any, .any, .a (.c (.sl 6 0 0 16 c5)), .a (.c (.int .i64 (↑i))), .any, .any, .any, .any, .any, .any, .any, .any, .any, .any, .any, .any, .any, .any, .any, .any, .any, .any, .any, .any, .any, .any, .any, .any, .any, .any, .any, .any, .any, .any, .any, .any, .any, .any, .any, .any, .any, .any, .any, .any, .any, .any, .any, .any, .any, .any, .any, .any, .any, .any, .any, .any, .any, .any, .any, .any, .any, .any, .any, .any, .any, .any, .any, .any, .any, .any, .any, .any, .any, .any, .any, .any, .any, .any, .any, .any, .any, .any, .any, .any, .any, .any, .any, .any, .any, .any, .any, .any, .any, .any, .any, .any, .any, .any, .any, .any, .any, .any, .any, .any, .any, .any], [bts za Na oa na (L a), bts zh Nh oh nh (L b), [.row Nb (bytesF 256 boxes)], [.row Nk (bytesF 16 key)], [.row Nn (bytesF 12 nn)], rowE e3, [.row c5 (bytesF 16 Y)], [.row c (bytesF (nh + i) (L S))]]⟩, fun (i, c) => i ≤ 16 ∧ nh + i ≤ c, fun (i, _) => 16 - i, ⟨(0, c), [0, 1, 2, 3, 4, 9, 14, 6], ⟨⟨rfl, rfl, rfl⟩, ?_⟩, by omega, by omega⟩, fun (i, c) ⟨hi, hc⟩ => ⟨fun h => ?_, fun h => ?_⟩⟩
          · (repeat first | exact trivial | refine ⟨rfl, ?_⟩ | refine ⟨fun _ _ => ⟨rfl, trivial⟩, ?_⟩ | refine ⟨fun _ _ => trivial, ?_⟩ | refine ⟨by omega, ?_⟩ | refine ⟨fun _ _ => eqC_winS, ?_⟩ | refine ⟨fun _ _ => eqC_winM, ?_⟩ | refine ⟨fun _ _ => eqC_winB, ?_⟩ | refine ⟨fun _ _ => eqC_selfB, ?_⟩ | refine ⟨fun _ _ => eqC_mpB, ?_⟩)
            refine eqC_bts (eqC_bts ?_)
            (repeat first | exact trivial | refine ⟨rfl, ?_⟩ | refine ⟨fun _ _ => ⟨rfl, trivial⟩, ?_⟩ | refine ⟨fun _ _ => trivial, ?_⟩ | refine ⟨by omega, ?_⟩ | refine ⟨fun _ _ => eqC_winS, ?_⟩ | refine ⟨fun _ _ => eqC_winM, ?_⟩ | refine ⟨fun _ _ => eqC_winB, ?_⟩ | refine ⟨fun _ _ => eqC_selfB, ?_⟩ | refine ⟨fun _ _ => eqC_mpB, ?_⟩)
            refine ⟨fun j hj => eqC_bytes (fun i hi => ?_) j, trivial⟩
            rw [bytesF_lt (by omega), hSC i (by omega)]
          · have hlt : i < 16 := by have : (i : Int) < 16 := of_decide_eq_true h; omega
            refine ⟨none, [], [(0, true), (1, true), (2, true), (3, true), (4, true), (5, true), (6, true), (7, true), (8, true), (9, true), (10, false)], [11, 12], by kernel_rfl, ?_⟩
            (repeat first | refine And.intro (by omega) ?_ | refine And.intro (by decide) ?_ | (with_reducible refine frc_parts (by first | omega | decide) ?_) | (with_reducible refine frc_bytesL (by first | omega | decide) ?_) | refine And.intro rfl ?_)
            refine ⟨⟨by omega, by simp only [scale]; omega, by show (nh + i + 1) * 1 ≤ 140737488355328; omega⟩, fun c3 hc3 => ?_⟩
            (repeat first | refine And.intro (by omega) ?_ | refine And.intro (by decide) ?_ | (with_reducible refine frc_parts (by first | omega | decide) ?_) | (with_reducible refine frc_bytesL (by first | omega | decide) ?_) | refine And.intro rfl ?_)
            refine ⟨(i + 1, c3), [0, 1, 2, 3, 4, 5, 6, 9], ⟨⟨rfl, rfl, rfl⟩, ?_⟩, ⟨by omega, by have hc3' : nh + i + 1 ≤ c3 := hc3; omega⟩, by first | omega | (dsimp only; omega)⟩
            (repeat first | exact trivial | refine ⟨rfl, ?_⟩ | refine ⟨fun _ _ => ⟨rfl, trivial⟩, ?_⟩ | refine ⟨fun _ _ => trivial, ?_⟩ | refine ⟨by omega, ?_⟩ | refine ⟨fun _ _ => eqC_winS, ?_⟩ | refine ⟨fun _ _ => eqC_winM, ?_⟩ | refine ⟨fun _ _ => eqC_winB, ?_⟩ | refine ⟨fun _ _ => eqC_selfB, ?_⟩ | refine ⟨fun _ _ => eqC_mpB, ?_⟩)
            refine eqC_bts (eqC_bts ?_)
            (repeat first | exact trivial | refine ⟨rfl, ?_⟩ | refine ⟨fun _ _ => ⟨rfl, trivial⟩, ?_⟩ | refine ⟨fun _ _ => trivial, ?_⟩ | refine ⟨by omega, ?_⟩ | refine ⟨fun _ _ => eqC_winS, ?_⟩ | refine ⟨fun _ _ => eqC_winM, ?_⟩ | refine ⟨fun _ _ => eqC_winB, ?_⟩ | refine ⟨fun _ _ => eqC_selfB, ?_⟩ | refine ⟨fun _ _ => eqC_mpB, ?_⟩)
            refine ⟨fun j hj => eqC_bytes (fun q hi => ?_) j, trivial⟩
            · by_cases h2 : q < nh + i
              · unfold appF
                rw [if_pos (by simpa [scale] using h2)]
                exact bytesF_lt h2
              · have hq : q = nh + i := by omega
                rw [hq]
                unfold appF
                rw [if_neg (by simp [scale]), if_pos (by simp [scale]), show nh + i - scale (nh + i) (0 + 1) = 0 by simp [scale]]
                have e9 : (i : Int).toNat + 0 = i := by omega
                show SC.w8 (byE e3 ((i : Int).toNat + 0) ^^^ Y ((i : Int).toNat + 0)) = _
                rw [e9, hTs i (by omega)]
          · obtain rfl : i = 16 := by have : ¬ (i : Int) < 16 := of_decide_eq_false h; omega
            refine ⟨.a (.c (.sl 5 0 0 (nh + 16) c)), _, ⟨[0, 1, 2, 3, 4, 7], ⟨rfl, rfl, rfl⟩, ?_⟩, c, by omega, rfl, rfl⟩
            (repeat first | exact trivial | refine ⟨rfl, ?_⟩ | refine ⟨fun _ _ => ⟨rfl, trivial⟩, ?_⟩ | refine ⟨fun _ _ => trivial, ?_⟩ | refine ⟨by omega, ?_⟩ | refine ⟨fun _ _ => eqC_winS, ?_⟩ | refine ⟨fun _ _ => eqC_winM, ?_⟩ | refine ⟨fun _ _ => eqC_winB, ?_⟩ | refine ⟨fun _ _ => eqC_selfB, ?_⟩ | refine ⟨fun _ _ => eqC_mpB, ?_⟩)
            refine eqC_bts (eqC_bts ?_)
            (repeat first | exact trivial | refine ⟨rfl, ?_⟩ | refine ⟨fun _ _ => ⟨rfl, trivial⟩, ?_⟩ | refine ⟨fun _ _ => trivial, ?_⟩ | refine ⟨by omega, ?_⟩ | refine ⟨fun _ _ => eqC_winS, ?_⟩ | refine ⟨fun _ _ => eqC_winM, ?_⟩ | refine ⟨fun _ _ => eqC_winB, ?_⟩ | refine ⟨fun _ _ => eqC_selfB, ?_⟩ | refine ⟨fun _ _ => eqC_mpB, ?_⟩)
end Sx
end Go.Proofs.Ytndlhhhebijknaa
end

section
/-
  The law's fixed fact of layer 6: a key of noughts, a nonce of noughts: the model's answer. Plain. No condition.
-/
namespace Go.Proofs.Ytndlhhhebijknaa
set_option linter.unusedVariables false
namespace Aes
open Gcm
def gvK (_ : Nat) : BitVec 8 := 0#8
def gvB (i : Nat) : BitVec 8 := ctrB (fun _ => 0#8) 1#32 i
end Aes
end Go.Proofs.Ytndlhhhebijknaa
end

section
/-
  binnacle/binnaclelaw06: the laws of sealing, walked. No condition.
-/
namespace Go.Proofs.Ytndlhhhebijknaa
set_option linter.unusedVariables false
namespace Gcm
open Sha
theorem cryL_cryL (E : (Nat → BitVec 8) → Nat → BitVec 8) (nn : Nat → BitVec 8) (l : Bs) : cryL E nn (cryL E nn l) = l := by
  refine ext_L (by simp) fun i hi => ?_
  have hi' : i < l.length := by simpa using hi
  show L (tab (cryL E nn l).length (cryB E nn (cryL E nn l))) i = _
  rw [L_tab (by simpa using hi')]
  unfold cryB
  have : L (cryL E nn l) i = L l i ^^^ E (ctrB nn (BitVec.ofNat 32 (2 + i / 16))) (i % 16) := by
    unfold cryL; rw [L_tab hi']; rfl
  rw [this, BitVec.xor_assoc, BitVec.xor_self, BitVec.xor_zero]
theorem seal_take (E : (Nat → BitVec 8) → Nat → BitVec 8) (H : Gcm.E) (nn : Nat → BitVec 8) (a p : Bs) : (sealL E H nn a p).take ((sealL E H nn a p).length - 16) = cryL E nn p := by
  rw [sealL_len, Nat.add_sub_cancel]
  unfold sealL
  rw [List.take_left' (by simp)]
theorem seal_tag (E : (Nat → BitVec 8) → Nat → BitVec 8) (H : Gcm.E) (nn : Nat → BitVec 8) (a p : Bs) (i : Nat) (hi : i < 16) : L (sealL E H nn a p) (p.length + i) = tagB E H nn a (cryL E nn p) i := by
  unfold sealL
  have := @L_app2 (cryL E nn p) (tab 16 (tagB E H nn a (cryL E nn p))) i
  rw [cryL_len] at this
  rw [this, L_tab hi]
end Gcm
namespace Gcm
open Sha
end Gcm
namespace Sx
open Aes Gcm Sha

end Sx
end Go.Proofs.Ytndlhhhebijknaa
end
