/-
  VintReads' own reader, its closures' contracts. No condition.
-/
import Derived.Test.YtmpnhiehkiiepaaRdr
namespace Go.Proofs.Ytmpnhiehkiiepaa
open Go.RowKit

/-- The closure that fails. -/
def failV (bw bl : Nat) : Value := .func (.func 48) #[] #[.pointer (some ⟨bw, 0, none⟩), .pointer (some ⟨bl, 0, none⟩)]
def takeVal (bl bw bf : Nat) : Value := .func (.func 49) #[] #[.pointer (some ⟨bl, 0, none⟩), .pointer (some ⟨bw, 0, none⟩), .pointer (some ⟨bf, 0, none⟩)]
/-- The law's own reader: what is left lies in block bl, the error in bw, the closures in bf, bt. -/
structure LW (B : Nat) (w : World) (bl bw bf bt : Nat) (s : RS) : Prop where
  l : ∃ A n c, Blk w bl 22 #[.slice A n c] ∧ Rd u8v w B A s.l ∧ s.l.length = n ∧ n ≤ c ∧ c ≤ 9223372036854775807
  e : Blk w bw 26 #[.int .i64 s.err]
  f : Blk w bf 90 #[failV bw bl]
  t : Blk w bt 91 #[takeVal bl bw bf]
  b1 : B ≤ bl
  b2 : B ≤ bw
theorem LW.nlw {B : Nat} {w : World} {bl bw bf bt : Nat} {s : RS} (h : LW B w bl bw bf bt s) : bl ≠ bw ∧ bf ≠ bl ∧ bf ≠ bw ∧ bt ≠ bl ∧ bt ≠ bw := by
  obtain ⟨⟨A, n, c, h1, -⟩, h2, h3, h4, -, -⟩ := h
  exact ⟨h1.ne_ h2 (by decide), h3.ne_ h1 (by decide), h3.ne_ h2 (by decide), h4.ne_ h1 (by decide), h4.ne_ h2 (by decide)⟩
theorem LW.ext {B : Nat} {w w' : World} {bl bw bf bt : Nat} {s : RS} {m : List Nat} (h : LW B w bl bw bf bt s) (k : Ext m w w') (hB : ∀ i ∈ m, B ≤ i) (h1 : bl ∉ m) (h2 : bw ∉ m) (h3 : bf ∉ m) (h4 : bt ∉ m) : LW B w' bl bw bf bt s := by
  obtain ⟨⟨A, n, c, hb, hr, hr2⟩, he, hf, ht, hb1, hb2⟩ := h
  refine ⟨⟨A, n, c, hb.ext k h1, hr.keep (fun p hp => ?_), hr2⟩, he.ext k h2, hf.ext k h3, ht.ext k h4, hb1, hb2⟩
  have hlt := hb.lt
  exact World.cell?_of_block (w := w) (k.block p.block (by omega) (fun hc => by have := hB _ hc; omega))
theorem LW.ended {B : Nat} {w : World} {bl bw bf bt : Nat} {s : RS} (h : LW B w bl bw bf bt s) (e : Int) : LW B ((w.setCell ⟨bw, 0, none⟩ (.int .i64 e)).setCell ⟨bl, 0, none⟩ (.slice none 0 0)) bl bw bf bt ⟨[], e⟩ := by
  obtain ⟨n1, n2, n3, n4, n5⟩ := h.nlw
  obtain ⟨⟨A, n, c, hb, hr, hr2⟩, he, hf, ht, hb1, hb2⟩ := h
  exact ⟨⟨none, 0, 0, by simpa using (hb.far (p := ⟨bw, 0, none⟩) n1 _).set_ 0 (.slice none 0 0), Rd.nil_ _ _ _ _, rfl, Nat.le_refl _, by omega⟩, by simpa using (he.set_ 0 (.int .i64 e)).far (p := ⟨bl, 0, none⟩) (Ne.symm n1) _,
    (hf.far (p := ⟨bw, 0, none⟩) n3 _).far (p := ⟨bl, 0, none⟩) n2 _, (ht.far (p := ⟨bw, 0, none⟩) n5 _).far (p := ⟨bl, 0, none⟩) n4 _, hb1, hb2⟩
theorem LW.cut {B : Nat} {w : World} {bl bw bf bt : Nat} {s : RS} (h : LW B w bl bw bf bt s) (A : Option Addr) (n c : Nat) (l : List UInt8) (hr : Rd u8v w B A l) (hl : l.length = n) (hc : n ≤ c) (hm : c ≤ 9223372036854775807) : LW B (w.setCell ⟨bl, 0, none⟩ (.slice A n c)) bl bw bf bt ⟨l, s.err⟩ := by
  obtain ⟨n1, n2, n3, n4, n5⟩ := h.nlw
  obtain ⟨⟨A0, n0, c0, hb, -, -⟩, he, hf, ht, hb1, hb2⟩ := h
  exact ⟨⟨A, n, c, by simpa using hb.set_ 0 (.slice A n c), hr.setCell hb1 _, hl, hc, hm⟩, he.far (p := ⟨bl, 0, none⟩) (Ne.symm n1) _, hf.far (p := ⟨bl, 0, none⟩) n2 _, ht.far (p := ⟨bl, 0, none⟩) n4 _, hb1, hb2⟩

section
variable {B bl bw bf bt : Nat} {s : RS} {w : World}
theorem lw_fail (e : Int) (h : LW B w bl bw bf bt s) (he : e ≠ 0) :
    Calls Try.prog 48 #[.int .i64 e, .pointer (some ⟨bw, 0, none⟩), .pointer (some ⟨bl, 0, none⟩)] w fun x w' => x = .returned (.tuple #[]) ∧ LW B w' bl bw bf bt (s.fail e) ∧ Ext [bl, bw] w w' := by
  have H := Lib.hid h
  have c1 : w.cell? ⟨bw, 0, none⟩ = some (.int .i64 s.err) := h.e.cell 0
  have f1 := h.e.free 0
  obtain ⟨A, n, c, hb, -⟩ := h.l
  have c0 := hb.cell 0
  have f0 := hb.free 0
  have hne := h.nlw.1
  clear h hb
  by_cases hs : s.err = 0
  · have hf : s.fail e = ⟨[], e⟩ := by unfold RS.fail; rw [if_neg (by simp [hs, he])]
    have HF := Lib.hid hf
    have h0 : (s.err == 0) = true := by simpa using hs
    have hn2 : bw ≠ bl := Ne.symm hne
    clear hf hs he
    go_enter Try.func48, Try.ntmps48
    go_wp2
    go_end0
    rw [HF.out]
    exact ⟨rfl, H.out.ended e, ((Ext.refl _ w).set_ (.inl (by simp)) _).set_ (.inl (by simp)) _⟩
  · have hf : s.fail e = s := s.fail_ended e (.inl hs)
    have HF := Lib.hid hf
    have h0 : (s.err == 0) = false := by simpa using hs
    clear hf hs he
    go_enter Try.func48, Try.ntmps48
    go_wp2
    go_end0
    rw [HF.out]
    exact ⟨rfl, H.out, Ext.refl _ _⟩
theorem refTake_any (A : Option Addr) (n c : Nat) (l : List UInt8) (hr : Rd u8v w B A l) (hl : l.length = n) (hm : n ≤ 9223372036854775807) :
    Calls Try.prog 33 #[.slice A n c] w fun e w' => e = .returned (.tuple #[.int .u64 (takeV l), .int .i64 (takeN l)]) ∧ w = w' := by
  match l, hr, hl with
  | [], _, hl =>
    obtain rfl : n = 0 := hl.symm
    exact refTake_nil A c w
  | x :: r, hr, hl => exact refTake_cons A n c x r B w hr hl hm
set_option maxHeartbeats 1000000 in
theorem lw_take (h : LW B w bl bw bf bt s) :
    Calls Try.prog 49 #[.pointer (some ⟨bl, 0, none⟩), .pointer (some ⟨bw, 0, none⟩), .pointer (some ⟨bf, 0, none⟩)] w fun x w' => x = .returned (.int .u64 s.num) ∧ LW B w' bl bw bf bt s.next ∧ Ext [bl, bw] w w' := by
  have H := Lib.hid h
  have c1 : w.cell? ⟨bw, 0, none⟩ = some (.int .i64 s.err) := h.e.cell 0
  have c2 : w.cell? ⟨bf, 0, none⟩ = some (.func (.func 48) #[] #[.pointer (some ⟨bw, 0, none⟩), .pointer (some ⟨bl, 0, none⟩)]) := h.f.cell 0
  obtain ⟨A, n, c, hb, hr, hn, hnc, hcm⟩ := h.l
  have c0 := hb.cell 0
  have f0 := hb.free 0
  have HR := Lib.hid hr
  have HN := Lib.hid hn
  clear h hb hr hn
  by_cases hs : s.err = 0
  · obtain ⟨l, err⟩ := s
    obtain rfl : err = 0 := hs
    dsimp only at *
    by_cases hk : takeN l = 0
    · have hv : takeV l = 0 := by
        unfold takeN at hk
        unfold takeV
        cases l with
        | nil => rfl
        | cons x r =>
          simp only at hk ⊢
          split at hk
          · rename_i h; rw [if_pos h]
          · have := Nat.pos_of_ne_zero (Nat.ne_of_gt (Nat.two_pow_pos (x.toNat / 64))); omega
      have hnum : RS.num ⟨l, 0⟩ = 0 := by simp [RS.num, hv]
      have hnx : RS.next ⟨l, 0⟩ = RS.fail ⟨l, 0⟩ 3 := by simp [RS.next, hk, RS.fail]
      have HK := Lib.hid hk
      have HV := Lib.hid hnum
      have HX := Lib.hid hnx
      clear hk hv hnum hnx
      go_enter Try.func49, Try.ntmps49
      go_wp2_with (first
        | (go_at_call 48; refine (lw_fail 3 H.out (by decide)).mono ?_; rintro e w2 ⟨rfl, h1, h2⟩; have H1 := Lib.hid h1; have H2 := Lib.hid h2; clear h1 h2)
        | (go_at_call 33; refine (refTake_any A n c l HR.out HN.out (by omega)).mono ?_; rintro e w' ⟨rfl, rfl⟩; rw [HK.out]))
      go_ret
      rw [HV.out, HX.out]
      exact ⟨rfl, H1.out, H2.out⟩
    · have hnum : RS.num ⟨l, 0⟩ = takeV l := by simp [RS.num]
      have hnx : RS.next ⟨l, 0⟩ = ⟨l.drop (takeN l), 0⟩ := by simp [RS.next, hk]
      have hle : takeN l ≤ n := by have := takeN_le l; have := HN.out; omega
      rw [hnum, hnx]
      obtain ⟨q, hq⟩ : ∃ q, q = takeN l := ⟨_, rfl⟩
      rw [← hq] at hle hk ⊢
      have hk0 : ((q : Int) == 0) = false := by simp; omega
      have HQ := Lib.hid hq
      clear hk hnum hnx hq
      go_enter Try.func49, Try.ntmps49
      go_wp2_with (go_at_call 33; refine (refTake_any A n c l HR.out HN.out (by omega)).mono ?_; rintro e w' ⟨rfl, rfl⟩; rw [← HQ.out])
      all_goals
        go_ret
        refine ⟨rfl, H.out.cut _ _ _ _ ?_ (by have := HN.out; simp; omega) (by omega) (by omega), (Ext.refl _ w).set_ (.inl (by simp)) _⟩
        first
          | (have h := HR.out.drop (k := q) (cap := c) (by have := HN.out; omega) (by have := HN.out; omega); rwa [if_neg (by assumption)] at h)
          | (have h := HR.out.drop (k := q) (cap := q) (by have := HN.out; omega) (by have := HN.out; omega); rwa [if_pos rfl] at h)
  · have hnum : s.num = 0 := by simp [RS.num, hs]
    have hnx : s.next = s := by simp [RS.next, hs]
    have HV := Lib.hid hnum
    have HX := Lib.hid hnx
    have h0 : (s.err == 0) = false := by simpa using hs
    clear hnum hnx hs
    go_enter Try.func49, Try.ntmps49
    go_wp2_with (go_at_call 33; refine (refTake_any A n c s.l HR.out HN.out (by omega)).mono ?_; rintro e w' ⟨rfl, rfl⟩)
    go_ret
    rw [HV.out, HX.out]
    exact ⟨rfl, H.out, Ext.refl _ _⟩
theorem ext_lw {a b : Nat} {w w1 w2 : World} (h : Ext [a, b] w w1) (k : Ext [a, b] w1 w2) : Ext [a, b] w w2 := h.trans k
theorem RS.num_not (s : RS) (h : s.okB = false) : s.num = 0 := by
  unfold RS.okB at h
  unfold RS.num
  by_cases he : s.err = 0
  · simp [he] at h
    simp only [he]
    rw [if_neg (by simp)]
    unfold takeN at h
    unfold takeV
    cases hl : s.l with
    | nil => rfl
    | cons x r =>
      rw [hl] at h
      simp only at h ⊢
      split at h
      · rename_i h2; rw [if_pos h2]
      · have := Nat.pos_of_ne_zero (Nat.ne_of_gt (Nat.two_pow_pos (x.toNat / 64))); omega
  · rw [if_pos he]
theorem RS.count_eq (s : RS) (k : Int) : s.count k = if (if k < 0 then 0 else k) < s.num then (0, s.next.fail 2) else (s.num, s.next) := by
  unfold RS.count
  cases h : s.okB
  · have := s.num_not h
    rw [if_pos rfl, this, if_neg (by split <;> omega)]
  · rw [if_neg (by simp)]
set_option maxHeartbeats 1000000 in
theorem lw_count (k : Int) (h : LW B w bl bw bf bt s) (hk : -9223372036854775808 ≤ k ∧ k ≤ 9223372036854775807) :
    Calls Try.prog 50 #[.int .i64 k, .pointer (some ⟨bt, 0, none⟩), .pointer (some ⟨bf, 0, none⟩)] w fun x w' => x = .returned (.int .i64 (s.count k).1) ∧ LW B w' bl bw bf bt (s.count k).2 ∧ Ext [bl, bw] w w' := by
  have H := Lib.hid h
  have c3 : w.cell? ⟨bt, 0, none⟩ = some (.func (.func 49) #[] #[.pointer (some ⟨bl, 0, none⟩), .pointer (some ⟨bw, 0, none⟩), .pointer (some ⟨bf, 0, none⟩)]) := h.t.cell 0
  clear h
  have hbd := s.num_bd
  have hce := s.count_eq k
  obtain ⟨v, hv⟩ : ∃ v, v = s.num := ⟨_, rfl⟩
  rw [← hv] at hbd hce
  have HV := Lib.hid hv
  clear hv
  by_cases hk0 : k < 0
  all_goals
    by_cases hs : (if k < 0 then 0 else k) < v
    · rw [if_pos hs] at hce
      have HC := Lib.hid hce
      clear hce
      first | rw [if_pos hk0] at hs | rw [if_neg hk0] at hs
      go_enter Try.func50, Try.ntmps50
      go_wp2_with (first
        | (go_at_call 48; refine (lw_fail 2 H1.out (by decide)).mono ?_; rintro e w3 ⟨rfl, h1, h2⟩; have H3 := Lib.hid h1; have H4 := Lib.hid h2; clear h1 h2)
        | (go_at_call 49; refine (lw_take H.out).mono ?_; rintro e w2 ⟨rfl, h1, h2⟩; rw [← HV.out]; have c2 : w2.cell? ⟨bf, 0, none⟩ = some (.func (.func 48) #[] #[.pointer (some ⟨bw, 0, none⟩), .pointer (some ⟨bl, 0, none⟩)]) := h1.f.cell 0; have H1 := Lib.hid h1; have H2 := Lib.hid h2; clear h1 h2))
      go_ret
      rw [HC.out]
      exact ⟨rfl, H3.out, H2.out.trans H4.out⟩
    · rw [if_neg hs] at hce
      have HC := Lib.hid hce
      clear hce
      first | rw [if_pos hk0] at hs | rw [if_neg hk0] at hs
      go_enter Try.func50, Try.ntmps50
      go_wp2_with (go_at_call 49; refine (lw_take H.out).mono ?_; rintro e w2 ⟨rfl, h1, h2⟩; rw [← HV.out]; have H1 := Lib.hid h1; have H2 := Lib.hid h2; clear h1 h2)
      go_ret
      rw [HC.out]
      exact ⟨rfl, H1.out, H2.out⟩
def LwBytes (B bl bw bf bt : Nat) (s : RS) (k : Int) (w : World) (x : Ending) (w' : World) : Prop := ∃ A2 n2 c2, x = .returned (.slice A2 n2 c2) ∧ Rd u8v w' B A2 (s.bytes k).1 ∧ (s.bytes k).1.length = n2 ∧ LW B w' bl bw bf bt (s.bytes k).2 ∧ Ext [bl, bw] w w'
set_option maxHeartbeats 1000000 in
theorem lw_bytes (k : Int) (h : LW B w bl bw bf bt s) (hk : -9223372036854775808 ≤ k ∧ k ≤ 9223372036854775807) :
    Calls Try.prog 51 #[.int .i64 k, .pointer (some ⟨bw, 0, none⟩), .pointer (some ⟨bl, 0, none⟩), .pointer (some ⟨bf, 0, none⟩)] w (LwBytes B bl bw bf bt s k w) := by
  have H := Lib.hid h
  have c1 : w.cell? ⟨bw, 0, none⟩ = some (.int .i64 s.err) := h.e.cell 0
  have c2 : w.cell? ⟨bf, 0, none⟩ = some (.func (.func 48) #[] #[.pointer (some ⟨bw, 0, none⟩), .pointer (some ⟨bl, 0, none⟩)]) := h.f.cell 0
  obtain ⟨A, n, c, hb, hr, hn, hnc, hcm⟩ := h.l
  have c0 := hb.cell 0
  have f0 := hb.free 0
  have HR := Lib.hid hr
  have HN := Lib.hid hn
  have hb1 := h.b1
  clear h hb hr hn
  by_cases hs : s.err = 0
  · have h0 : (s.err == 0) = true := by simpa using hs
    by_cases hkk : k < 0 ∨ (n : Int) < k
    · have hby : s.bytes k = ([], s.fail 3) := by
        unfold RS.bytes RS.fail
        rw [if_neg (by simpa using hs), if_pos (by rw [HN.out]; exact hkk), if_neg (by simp [hs])]
      have HB := Lib.hid hby
      clear hby hs
      by_cases hk3 : k < 0
      · clear hkk
        go_enter Try.func51, Try.ntmps51
        go_wp2_with (go_at_call 48; refine (lw_fail 3 H.out (by decide)).mono ?_; rintro e w2 ⟨rfl, h1, h2⟩; have H1 := Lib.hid h1; have H2 := Lib.hid h2; clear h1 h2)
        go_ret
        unfold LwBytes
        rw [HB.out]
        exact ⟨none, 0, 0, rfl, Rd.nil_ _ _ _ _, rfl, H1.out, H2.out⟩
      · have hk4 : (n : Int) < k := by omega
        clear hkk
        go_enter Try.func51, Try.ntmps51
        go_wp2_with (go_at_call 48; refine (lw_fail 3 H.out (by decide)).mono ?_; rintro e w2 ⟨rfl, h1, h2⟩; have H1 := Lib.hid h1; have H2 := Lib.hid h2; clear h1 h2)
        go_ret
        unfold LwBytes
        rw [HB.out]
        exact ⟨none, 0, 0, rfl, Rd.nil_ _ _ _ _, rfl, H1.out, H2.out⟩
    · obtain ⟨q, rfl⟩ : ∃ q : Nat, k = q := ⟨k.toNat, by omega⟩
      have hqn : q ≤ n := by omega
      have hby : s.bytes q = (s.l.take q, ⟨s.l.drop q, s.err⟩) := by unfold RS.bytes; rw [if_neg (by simpa using hs), if_neg (by rw [HN.out]; exact hkk), hs]; rfl
      have HB := Lib.hid hby
      clear hby hkk hs
      go_enter Try.func51, Try.ntmps51
      go_wp2
      all_goals
        go_ret
        unfold LwBytes
        rw [HB.out]
        refine ⟨_, _, _, rfl, (HR.out.take q).setCell hb1 _, by have := HN.out; simp; omega, H.out.cut _ _ _ _ ?_ (by have := HN.out; simp; omega) (by omega) (by omega), (Ext.refl _ w).set_ (.inl (by simp)) _⟩
        first
          | (have h := HR.out.drop (k := q) (cap := c) (by have := HN.out; omega) (by have := HN.out; omega); rwa [if_neg (by assumption)] at h)
          | (have h := HR.out.drop (k := q) (cap := q) (by have := HN.out; omega) (by have := HN.out; omega); rwa [if_pos rfl] at h)
  · have hby : s.bytes k = ([], s) := by unfold RS.bytes; rw [if_pos hs]
    have HB := Lib.hid hby
    have h0 : (s.err == 0) = false := by simpa using hs
    clear hby hs
    go_enter Try.func51, Try.ntmps51
    go_wp2
    go_ret
    unfold LwBytes
    rw [HB.out]
    exact ⟨none, 0, 0, rfl, Rd.nil_ _ _ _ _, rfl, H.out, Ext.refl _ _⟩
end
end Go.Proofs.Ytmpnhiehkiiepaa
