/-
  Contracts of vint.Reader's methods. A reader is a block of two cells; its rest is a slice of bytes. No condition.
-/
import Derived.Test.YtmpnhiehkiiepaaVintA
import Derived.Test.YtmpnhiehkiiepaaExt
namespace Go.Proofs.Ytmpnhiehkiiepaa
open Go.RowKit

/-- Block b is a reader with the rest l (at A), that ended so. -/
structure Rdr (w : World) (b : Nat) (A : Option Addr) (n c : Nat) (l : List UInt8) (err : Int) : Prop where
  bk : Blk w b 107 #[.slice A n c, .int .i64 err]
  rd : Rd u8v w w.heap.size A l
  ln : l.length = n
  nc : n ≤ c
  cm : c ≤ 9223372036854775807
theorem rdr_set {w : World} {b : Nat} {A : Option Addr} {n c : Nat} {l : List UInt8} {err : Int} (h : Rdr w b A n c l err) (A' : Option Addr) (n' c' : Nat) (l' : List UInt8) (hr : Rd u8v w w.heap.size A' l') (hl : l'.length = n') (hc' : n' ≤ c') (hm : c' ≤ 9223372036854775807) :
    Rdr (w.setCell ⟨b, 0, none⟩ (.slice A' n' c')) b A' n' c' l' err := by
  refine ⟨by simpa using h.bk.set_ 0 (.slice A' n' c'), ⟨hr.1, fun hn => ?_⟩, hl, hc', hm⟩
  obtain ⟨g, off, hA, hlt, hc⟩ := hr.2 hn
  refine ⟨g, off, hA, by simpa [World.setCell] using hlt, fun j u hu => ?_⟩
  refine (World.cell?_setCell_other w ⟨b, 0, none⟩ ⟨g, off + j, none⟩ _ (fun e => ?_)).trans (hc j u hu)
  injection e with e1 e2
  subst e1
  have hx := hc j u hu
  rw [← e2, h.bk.cell 0] at hx
  obtain ⟨y, _, rfl⟩ := List.mem_map.1 (List.mem_of_getElem? hu)
  simp [u8v] at hx
theorem fail_old (b : Nat) (A : Option Addr) (n c : Nat) (l : List UInt8) (err e : Int) (w : World) (h : Rdr w b A n c l err) (he : err ≠ 0 ∨ e = 0) :
    Calls Try.prog 58 #[.pointer (some ⟨b, 0, none⟩), .int .i64 e] w fun x w' => x = .returned (.tuple #[]) ∧ w = w' := by
  have c1 : w.cell? ⟨b, 1, none⟩ = some (.int .i64 err) := h.bk.cell 1
  clear h
  by_cases h0 : e = 0
  · subst h0
    go_enter Try.func58, Try.ntmps58
    go_wp2
    go_returns
    exact ⟨rfl, rfl⟩
  · have he1 : (e == 0) = false := by simpa using h0
    have he2 : (err == 0) = false := by simp; omega
    clear he
    go_enter Try.func58, Try.ntmps58
    go_wp2
    go_returns
    exact ⟨rfl, rfl⟩
theorem fail_new (b : Nat) (A : Option Addr) (n c : Nat) (l : List UInt8) (e : Int) (w : World) (h : Rdr w b A n c l 0) (he : e ≠ 0) :
    Calls Try.prog 58 #[.pointer (some ⟨b, 0, none⟩), .int .i64 e] w fun x w' => x = .returned (.tuple #[]) ∧ Rdr w' b none 0 0 [] e ∧ GrowP w w' b (.slice none 0 0) (.slice none 0 0) := by
  have HR := Lib.hid h
  have c0 := h.bk.cell 0
  have c1 : w.cell? ⟨b, 1, none⟩ = some (.int .i64 0) := h.bk.cell 1
  have f0 := h.bk.free 0
  have f1 := h.bk.free 1
  clear h
  have he1 : (e == 0) = false := by simpa using he
  clear he
  go_enter Try.func58, Try.ntmps58
  go_wp2
  go_end0
  refine ⟨rfl, ⟨(HR.out.bk.set_ 1 (.int .i64 e)).set_ 0 (.slice none 0 0), Rd.nil_ _ _ _ _, rfl, Nat.le_refl _, by omega⟩, ((GrowP.refl w b _).set_ 1 _).set_ 0 _⟩
/-- Take, of whatever bytes. -/
theorem take_any (A : Option Addr) (n c : Nat) (l : List UInt8) (B : Nat) (w : World) (hr : Rd u8v w B A l) (hl : l.length = n) (hc : n ≤ c) (hm : c ≤ 9223372036854775807) :
    Calls Try.prog 32 #[.slice A n c] w fun e w' => e = .returned (.tuple #[.int .u64 (takeV l), .int .i64 (takeN l), .int .i64 (if takeN l = 0 then 3 else 0)]) ∧ w = w' := by
  match l, hr, hl with
  | [], _, hl =>
    obtain rfl : n = 0 := hl.symm
    exact take_nil A c w
  | x :: r, hr, hl =>
    by_cases hk : takeN (x :: r) = 0
    · have hv : takeV (x :: r) = 0 := by
        unfold takeN at hk
        unfold takeV
        simp only at hk ⊢
        split at hk
        · rename_i h; rw [if_pos h]
        · have := Nat.pos_of_ne_zero (Nat.ne_of_gt (Nat.two_pow_pos (x.toNat / 64))); omega
      rw [if_pos hk, hk, hv]
      exact take_short A n c x r B w hr hl (by omega) hk
    · rw [if_neg hk]
      exact take_ok A n c x r B w hr hl hc hm hk
theorem takeN_le (l : List UInt8) : takeN l ≤ l.length := by
  match l with
  | [] => simp [takeN]
  | x :: r =>
    unfold takeN
    simp only
    split
    · omega
    · simp; omega

set_option maxHeartbeats 1000000 in
theorem next_ended (b : Nat) (A : Option Addr) (n c : Nat) (l : List UInt8) (err : Int) (w : World) (h : Rdr w b A n c l err) (he : err ≠ 0) :
    Calls Try.prog 70 #[.pointer (some ⟨b, 0, none⟩)] w fun x w' => x = .returned (.tuple #[.int .u64 0, .int .i64 0, .bool false]) ∧ w = w' := by
  have c1 : w.cell? ⟨b, 1, none⟩ = some (.int .i64 err) := h.bk.cell 1
  have he2 : (err == 0) = false := by simpa using he
  clear h he
  go_enter Try.func70, Try.ntmps70
  go_wp2
  exact bodyPost_ret (results_tmp3 rfl _ _ _) rfl ⟨rfl, rfl⟩
set_option maxHeartbeats 1000000 in
theorem next_short (b : Nat) (A : Option Addr) (n c : Nat) (l : List UInt8) (w : World) (h : Rdr w b A n c l 0) (hk : takeN l = 0) :
    Calls Try.prog 70 #[.pointer (some ⟨b, 0, none⟩)] w fun x w' => x = .returned (.tuple #[.int .u64 0, .int .i64 0, .bool false]) ∧ Rdr w' b none 0 0 [] 3 ∧ GrowP w w' b (.slice none 0 0) (.slice none 0 0) := by
  have HR := Lib.hid h
  have c0 := h.bk.cell 0
  have c1 : w.cell? ⟨b, 1, none⟩ = some (.int .i64 0) := h.bk.cell 1
  have HK := Lib.hid hk
  clear h hk
  go_enter Try.func70, Try.ntmps70
  go_wp2_with (first
    | (go_at_call 58; refine (fail_new b A n c l 3 _ HR.out (by decide)).mono ?_; rintro e w2 ⟨rfl, hw2, hg2⟩; have HW2 := Lib.hid hw2; have HG2 := Lib.hid hg2; clear hw2 hg2)
    | (go_at_call 32; refine (take_any A n c l w.heap.size _ HR.out.rd HR.out.ln HR.out.nc HR.out.cm).mono ?_; rintro e w' ⟨rfl, rfl⟩; rw [if_pos HK.out]))
  exact bodyPost_ret (results_tmp3 rfl _ _ _) rfl ⟨rfl, HW2.out, HG2.out⟩
set_option maxHeartbeats 1000000 in
theorem next_ok (b : Nat) (A : Option Addr) (n c : Nat) (l : List UInt8) (w : World) (h : Rdr w b A n c l 0) (hk : takeN l ≠ 0) :
    Calls Try.prog 70 #[.pointer (some ⟨b, 0, none⟩)] w fun x w' => ∃ A', x = .returned (.tuple #[.int .u64 (takeV l), .int .i64 (takeN l), .bool true]) ∧ Rdr w' b A' (n - takeN l) (c - takeN l) (l.drop (takeN l)) 0 ∧ GrowP w w' b (.slice none 0 0) (.slice none 0 0) := by
  have HR := Lib.hid h
  have c0 := h.bk.cell 0
  have c1 : w.cell? ⟨b, 1, none⟩ = some (.int .i64 0) := h.bk.cell 1
  have f0 := h.bk.free 0
  have hle : takeN l ≤ n := by have := takeN_le l; have := h.ln; omega
  have hnc := h.nc
  have hcm := h.cm
  have HK := Lib.hid hk
  obtain ⟨q, hq⟩ : ∃ q, q = takeN l := ⟨_, rfl⟩
  rw [← hq] at hle ⊢
  have HQ := Lib.hid hq
  clear h hk hq
  go_enter Try.func70, Try.ntmps70
  go_wp2_with (go_at_call 32; refine (take_any A n c l w.heap.size _ HR.out.rd HR.out.ln HR.out.nc HR.out.cm).mono ?_; rintro e w' ⟨rfl, rfl⟩; rw [if_neg HK.out, ← HQ.out])
  · refine bodyPost_ret (results_tmp3 rfl _ _ _) rfl ⟨rfl, ⟨_, rdr_set HR.out _ _ _ _ ?_ (by have := HR.out.ln; simp; omega) (by omega) (by omega)⟩, (GrowP.refl w b _).set_ 0 _⟩
    have h := HR.out.rd.drop (k := q) (cap := q) (by have := HR.out.ln; omega) (by have := HR.out.ln; omega)
    rwa [if_pos rfl] at h
  · refine bodyPost_ret (results_tmp3 rfl _ _ _) rfl ⟨rfl, ⟨_, rdr_set HR.out _ _ _ _ ?_ (by have := HR.out.ln; simp; omega) (by omega) (by omega)⟩, (GrowP.refl w b _).set_ 0 _⟩
    have h := HR.out.rd.drop (k := q) (cap := c) (by have := HR.out.ln; omega) (by have := HR.out.ln; omega)
    rwa [if_neg (by assumption)] at h

/-! ### A reader as a state -/
/-- What is left, and how it ended. -/
structure RS where
  l : List UInt8
  err : Int
def RS.fail (s : RS) (e : Int) : RS := if e = 0 ∨ s.err ≠ 0 then s else ⟨[], e⟩
def RS.size (s : RS) : Nat := if s.err ≠ 0 then 0 else takeN s.l
def RS.num (s : RS) : Int := if s.err ≠ 0 then 0 else takeV s.l
def RS.next (s : RS) : RS := if s.err ≠ 0 then s else if takeN s.l = 0 then ⟨[], 3⟩ else ⟨s.l.drop (takeN s.l), 0⟩
/-- Block b is a reader in state s. -/
def RdrS (w : World) (b : Nat) (s : RS) : Prop := s.l.length ≤ 140737488355328 ∧ ∃ A n c, Rdr w b A n c s.l s.err
theorem RdrS.lt {w : World} {b : Nat} {s : RS} (h : RdrS w b s) : b < w.heap.size := by obtain ⟨_, A, n, c, h⟩ := h; exact h.bk.lt
theorem Rdr.ne_ {w : World} {b : Nat} {A : Option Addr} {n c : Nat} {l : List UInt8} {err : Int} (h : Rdr w b A n c l err) : 0 < l.length → ∀ a, A = some a → a.block ≠ b := by
  intro hn a ha hb
  obtain ⟨g, off, hA, hlt, hc⟩ := h.rd.2 hn
  rw [hA] at ha
  injection ha with ha
  subst ha
  subst hb
  have hx := hc 0 _ (by simp [hn]; rfl)
  have h2 : off < 2 := by
    have := h.bk.cell off
    rw [Nat.add_zero] at hx
    rw [hx] at this
    have := (Array.getElem?_eq_some_iff.1 this.symm).1
    simpa using this
  have : off = 0 ∨ off = 1 := by omega
  rcases this with rfl | rfl
  · rw [h.bk.cell 0] at hx
    obtain ⟨y, _, hy⟩ := List.mem_map.1 (List.mem_of_getElem? (l := l.map u8v) (i := 0) (by simp [hn]; rfl))
    simp [u8v] at hx
  · rw [h.bk.cell 1] at hx
    simp [u8v] at hx
theorem Rdr.ext {w w' : World} {b : Nat} {A : Option Addr} {n c : Nat} {l : List UInt8} {err : Int} {m : List Nat} (h : Rdr w b A n c l err) (k : Ext m w w') (hb : b ∉ m) (hA : 0 < l.length → ∀ a, A = some a → a.block ∉ m) : Rdr w' b A n c l err :=
  ⟨h.bk.ext k hb, (RdX.ext (m := m) ⟨h.rd, hA⟩ k).1, h.ln, h.nc, h.cm⟩
/-- Behind a call that turns nothing old. -/
theorem RdrS.quiet {w w' : World} {b : Nat} {s : RS} (h : RdrS w b s) (k : Ext [] w w') : RdrS w' b s := by
  obtain ⟨hz, A, n, c, h⟩ := h
  exact ⟨hz, A, n, c, h.ext k (by simp) (by simp)⟩
theorem RdrS.alloc {w : World} {b : Nat} {s : RS} (h : RdrS w b s) (o : Obj) : RdrS (w.alloc o) b s := h.quiet ((Ext.refl [] w).alloc o)
theorem ext_of_growP {w w' : World} {b : Nat} (h : GrowP w w' b (.slice none 0 0) (.slice none 0 0)) : Ext [b] w w' := Ext.of_growP h
theorem RS.fail_ended (s : RS) (e : Int) (h : s.err ≠ 0 ∨ e = 0) : s.fail e = s := by unfold RS.fail; rw [if_pos (h.symm)]
theorem RS.fail_new (l : List UInt8) (e : Int) (h : e ≠ 0) : RS.fail ⟨l, 0⟩ e = ⟨[], e⟩ := by unfold RS.fail; rw [if_neg (by simpa using h)]

theorem rfail_any (b : Nat) (e : Int) (s : RS) (w : World) (h : RdrS w b s) :
    Calls Try.prog 58 #[.pointer (some ⟨b, 0, none⟩), .int .i64 e] w fun x w' => x = .returned (.tuple #[]) ∧ RdrS w' b (s.fail e) ∧ Ext [b] w w' := by
  obtain ⟨hz, A, n, c, h⟩ := h
  by_cases hc : s.err ≠ 0 ∨ e = 0
  · refine (fail_old b A n c s.l s.err e w h hc).mono ?_
    rintro x w' ⟨rfl, rfl⟩
    rw [RS.fail_ended s e hc]
    exact ⟨rfl, ⟨hz, A, n, c, h⟩, Ext.refl _ _⟩
  · have hs : s.err = 0 := by omega
    obtain ⟨l, err⟩ := s
    obtain rfl : err = 0 := hs
    have he : e ≠ 0 := by intro h; exact hc (.inr h)
    refine (fail_new b A n c l e w h he).mono ?_
    rintro x w' ⟨rfl, h1, h2⟩
    rw [RS.fail_new l e he]
    exact ⟨rfl, ⟨by simp, _, _, _, h1⟩, ext_of_growP h2⟩
def RS.okB (s : RS) : Bool := decide (s.err = 0 ∧ takeN s.l ≠ 0)
theorem rnext_any (b : Nat) (s : RS) (w : World) (h : RdrS w b s) :
    Calls Try.prog 70 #[.pointer (some ⟨b, 0, none⟩)] w fun x w' => x = .returned (.tuple #[.int .u64 s.num, .int .i64 s.size, .bool s.okB]) ∧ RdrS w' b s.next ∧ Ext [b] w w' := by
  obtain ⟨hz, A, n, c, h⟩ := h
  by_cases he : s.err = 0
  · obtain ⟨l, err⟩ := s
    obtain rfl : err = 0 := he
    by_cases hk : takeN l = 0
    · have hv : takeV l = 0 := by
        unfold takeN at hk
        unfold takeV
        cases l with
        | nil => rfl
        | cons x r =>
          simp only at hk ⊢
          split at hk
          · rename_i h; rw [if_pos h]
          · have := Nat.pos_of_ne_zero (Nat.ne_of_gt (Nat.two_pow_pos (x.toNat / 64))); omega
      refine (next_short b A n c l w h hk).mono ?_
      rintro x w' ⟨rfl, h1, h2⟩
      simp only [RS.num, RS.size, RS.okB, RS.next, hk, hv]
      exact ⟨by simp, ⟨by simp, _, _, _, by simpa using h1⟩, ext_of_growP h2⟩
    · refine (next_ok b A n c l w h hk).mono ?_
      rintro x w' ⟨A', rfl, h1, h2⟩
      simp only [RS.num, RS.size, RS.okB, RS.next]
      refine ⟨by simp [hk], ⟨by simp [hk] at hz ⊢; omega, _, _, _, by simpa [hk] using h1⟩, ext_of_growP h2⟩
  · refine (next_ended b A n c s.l s.err w h he).mono ?_
    rintro x w' ⟨rfl, rfl⟩
    simp only [RS.num, RS.size, RS.okB, RS.next, if_pos he]
    exact ⟨by simp [he], ⟨hz, _, _, _, h⟩, Ext.refl _ _⟩
theorem RS.size_le (s : RS) : s.size ≤ s.l.length := by
  unfold RS.size
  have := takeN_le s.l
  split <;> omega
theorem takeV_bd (l : List UInt8) : 0 ≤ takeV l ∧ takeV l < 4611686018427387904 := by
  unfold takeV
  cases l with
  | nil => simp
  | cons x r =>
    simp only
    split
    · simp
    · have hx := x.toNat_lt
      have hb := nearK_bd ((x.toNat : Int) % 64) (r.take (2 ^ (x.toNat / 64) - 1)) (by omega)
      refine ⟨hb.1, Int.lt_of_lt_of_le hb.2 ?_⟩
      have hl : (r.take (2 ^ (x.toNat / 64) - 1)).length ≤ 2 ^ (x.toNat / 64) - 1 := List.length_take_le _ _
      generalize (r.take (2 ^ (x.toNat / 64) - 1)).length = k at *
      have hp := pow_cases x
      have : k = 0 ∨ k = 1 ∨ k = 2 ∨ k = 3 ∨ k = 4 ∨ k = 5 ∨ k = 6 ∨ k = 7 := by omega
      rcases this with h | h | h | h | h | h | h | h <;> rw [h] <;> simp [win] <;> omega
theorem RS.num_bd (s : RS) : 0 ≤ s.num ∧ s.num < 4611686018427387904 := by
  unfold RS.num
  have := takeV_bd s.l
  split <;> omega

set_option maxHeartbeats 1000000 in
theorem rint_any (b : Nat) (s : RS) (w : World) (h : RdrS w b s) :
    Calls Try.prog 52 #[.pointer (some ⟨b, 0, none⟩)] w fun x w' => x = .returned (.int .u64 s.num) ∧ RdrS w' b s.next ∧ Ext [b] w w' := by
  have H := Lib.hid h
  clear h
  go_enter Try.func52, Try.ntmps52
  go_wp2_with (go_at_call 70; refine (rnext_any b s _ H.out).mono ?_; rintro e w2 ⟨rfl, h1, h2⟩; have H1 := Lib.hid h1; have H2 := Lib.hid h2; clear h1 h2)
  go_ret
  exact ⟨rfl, H1.out, H2.out⟩
/-- The next number, of the fewest bytes. -/
def RS.least (s : RS) : Int × RS := if s.okB = false then (0, s.next) else if (s.size : Int) ≠ lenF s.num then (0, s.next.fail 4) else (s.num, s.next)
set_option maxHeartbeats 1000000 in
theorem rleast_any (b : Nat) (s : RS) (w : World) (h : RdrS w b s) :
    Calls Try.prog 53 #[.pointer (some ⟨b, 0, none⟩)] w fun x w' => x = .returned (.int .u64 s.least.1) ∧ RdrS w' b s.least.2 ∧ Ext [b] w w' := by
  have H := Lib.hid h
  clear h
  cases hok : s.okB
  · have hl : s.least = (0, s.next) := by unfold RS.least; rw [if_pos hok]
    have HL := Lib.hid hl
    have HOK := Lib.hid hok
    clear hl hok
    go_enter Try.func53, Try.ntmps53
    go_wp2_with (go_at_call 70; refine (rnext_any b s _ H.out).mono ?_; rintro e w2 ⟨rfl, h1, h2⟩; rw [HOK.out]; have H1 := Lib.hid h1; have H2 := Lib.hid h2; clear h1 h2)
    go_ret
    rw [HL.out]
    exact ⟨rfl, H1.out, H2.out⟩
  · by_cases hs : (s.size : Int) = lenF s.num
    · have hl : s.least = (s.num, s.next) := by unfold RS.least; rw [if_neg (by simp [hok]), if_neg (by simpa using hs)]
      have HL := Lib.hid hl
      have HOK := Lib.hid hok
      have hs2 : ((s.size : Int) == lenF s.num) = true := by simpa using hs
      clear hl hok hs
      go_enter Try.func53, Try.ntmps53
      go_wp2_with (first
        | (go_at_call 26; refine (len_any s.num _ (RS.num_bd s).1).mono ?_; rintro e w' ⟨rfl, rfl⟩)
        | (go_at_call 70; refine (rnext_any b s _ H.out).mono ?_; rintro e w2 ⟨rfl, h1, h2⟩; rw [HOK.out]; have H1 := Lib.hid h1; have H2 := Lib.hid h2; clear h1 h2))
      go_ret
      rw [HL.out]
      exact ⟨rfl, H1.out, H2.out⟩
    · have hl : s.least = (0, s.next.fail 4) := by unfold RS.least; rw [if_neg (by simp [hok]), if_pos (by simpa using hs)]
      have HL := Lib.hid hl
      have HOK := Lib.hid hok
      have hs2 : ((s.size : Int) == lenF s.num) = false := by simpa using hs
      clear hl hok hs
      go_enter Try.func53, Try.ntmps53
      go_wp2_with (first
        | (go_at_call 58; refine (rfail_any b 4 s.next _ H1.out).mono ?_; rintro e w3 ⟨rfl, h1, h2⟩; have H3 := Lib.hid h1; have H4 := Lib.hid h2; clear h1 h2)
        | (go_at_call 26; refine (len_any s.num _ (RS.num_bd s).1).mono ?_; rintro e w' ⟨rfl, rfl⟩)
        | (go_at_call 70; refine (rnext_any b s _ H.out).mono ?_; rintro e w2 ⟨rfl, h1, h2⟩; rw [HOK.out]; have H1 := Lib.hid h1; have H2 := Lib.hid h2; clear h1 h2))
      go_ret
      rw [HL.out]
      exact ⟨rfl, H3.out, H2.out.trans H4.out⟩
/-- The next number, k at most. -/
def RS.count (s : RS) (k : Int) : Int × RS := if s.okB = false then (0, s.next) else if (if k < 0 then 0 else k) < s.num then (0, s.next.fail 2) else (s.num, s.next)
set_option maxHeartbeats 1000000 in
theorem rcount_any (b : Nat) (k : Int) (s : RS) (w : World) (h : RdrS w b s) (hk : -9223372036854775808 ≤ k ∧ k ≤ 9223372036854775807) :
    Calls Try.prog 54 #[.pointer (some ⟨b, 0, none⟩), .int .i64 k] w fun x w' => x = .returned (.int .i64 (s.count k).1) ∧ RdrS w' b (s.count k).2 ∧ Ext [b] w w' := by
  have H := Lib.hid h
  have hbd := RS.num_bd s
  clear h
  cases hok : s.okB
  · have hl : s.count k = (0, s.next) := by unfold RS.count; rw [if_pos hok]
    have HL := Lib.hid hl
    have HOK := Lib.hid hok
    clear hl hok
    go_enter Try.func54, Try.ntmps54
    go_wp2_with (go_at_call 70; refine (rnext_any b s _ H.out).mono ?_; rintro e w2 ⟨rfl, h1, h2⟩; rw [HOK.out]; have H1 := Lib.hid h1; have H2 := Lib.hid h2; clear h1 h2)
    go_ret
    rw [HL.out]
    exact ⟨rfl, H1.out, H2.out⟩
  · obtain ⟨v, hv⟩ : ∃ v, v = s.num := ⟨_, rfl⟩
    rw [← hv] at hbd
    by_cases hk0 : k < 0
    all_goals
      by_cases hs : (if k < 0 then 0 else k) < v
      · first | rw [if_pos hk0] at hs | rw [if_neg hk0] at hs
        have hl : s.count k = (0, s.next.fail 2) := by unfold RS.count; rw [if_neg (by simp [hok]), if_pos (by rw [← hv]; first | rwa [if_pos hk0] | rwa [if_neg hk0])]
        have HL := Lib.hid hl
        have HOK := Lib.hid hok
        have HV := Lib.hid hv
        clear hl hok hv
        go_enter Try.func54, Try.ntmps54
        go_wp2_with (first
          | (go_at_call 58; refine (rfail_any b 2 s.next _ H1.out).mono ?_; rintro e w3 ⟨rfl, h1, h2⟩; have H3 := Lib.hid h1; have H4 := Lib.hid h2; clear h1 h2)
          | (go_at_call 70; refine (rnext_any b s _ H.out).mono ?_; rintro e w2 ⟨rfl, h1, h2⟩; rw [HOK.out, ← HV.out]; have H1 := Lib.hid h1; have H2 := Lib.hid h2; clear h1 h2))
        go_ret
        rw [HL.out]
        exact ⟨rfl, H3.out, H2.out.trans H4.out⟩
      · first | rw [if_pos hk0] at hs | rw [if_neg hk0] at hs
        have hl : s.count k = (v, s.next) := by unfold RS.count; rw [if_neg (by simp [hok]), if_neg (by rw [← hv]; first | rwa [if_pos hk0] | rwa [if_neg hk0]), hv]
        have HL := Lib.hid hl
        have HOK := Lib.hid hok
        have HV := Lib.hid hv
        clear hl hok hv
        go_enter Try.func54, Try.ntmps54
        go_wp2_with (go_at_call 70; refine (rnext_any b s _ H.out).mono ?_; rintro e w2 ⟨rfl, h1, h2⟩; rw [HOK.out, ← HV.out]; have H1 := Lib.hid h1; have H2 := Lib.hid h2; clear h1 h2)
        go_ret
        rw [HL.out]
        exact ⟨rfl, H1.out, H2.out⟩

theorem Rd.one_at {w : World} {B : Nat} {A : Option Addr} {l : List UInt8} (h : Rd u8v w B A l) : ∀ k, k < l.length → ∃ g off, A = some ⟨g, off, none⟩ ∧ w.cell? ⟨g, off + k, none⟩ = some (u8v (l.getD k 0)) := by
  intro k hk
  obtain ⟨g, off, e, _, hc⟩ := h.at_ hk
  exact ⟨g, off, e, by rw [hc]; simp [List.getD, hk]⟩
/-- What is read as bytes is so behind a store into a reader. -/
theorem rdr_rd {w : World} {b : Nat} {A : Option Addr} {n c : Nat} {l : List UInt8} {err : Int} (h : Rdr w b A n c l err) {B : Nat} {A' : Option Addr} {l' : List UInt8} (hr : Rd u8v w B A' l') (x : Option Addr) (y z : Nat) :
    Rd u8v (w.setCell ⟨b, 0, none⟩ (.slice x y z)) B A' l' := by
  refine ⟨hr.1, fun hn => ?_⟩
  obtain ⟨g, off, hA, hlt, hc⟩ := hr.2 hn
  refine ⟨g, off, hA, hlt, fun j u hu => ?_⟩
  refine (World.cell?_setCell_other w ⟨b, 0, none⟩ ⟨g, off + j, none⟩ _ (fun e => ?_)).trans (hc j u hu)
  injection e with e1 e2
  subst e1
  have hx := hc j u hu
  rw [← e2, h.bk.cell 0] at hx
  obtain ⟨y, _, rfl⟩ := List.mem_map.1 (List.mem_of_getElem? hu)
  simp [u8v] at hx
/-- The next bytes, k of them. -/
def RS.bytes (s : RS) (k : Int) : List UInt8 × RS := if s.err ≠ 0 then ([], s) else if k < 0 ∨ (s.l.length : Int) < k then ([], ⟨[], 3⟩) else (s.l.take k.toNat, ⟨s.l.drop k.toNat, 0⟩)
set_option maxHeartbeats 1000000 in
theorem rbytes_any (b : Nat) (k : Int) (s : RS) (w : World) (h : RdrS w b s) :
    Calls Try.prog 55 #[.pointer (some ⟨b, 0, none⟩), .int .i64 k] w fun x w' => ∃ A2 n2 c2, x = .returned (.slice A2 n2 c2) ∧ Rd u8v w' w'.heap.size A2 (s.bytes k).1 ∧ (s.bytes k).1.length = n2 ∧ n2 ≤ c2 ∧ c2 ≤ 9223372036854775807 ∧ Fresh w.heap.size A2 n2 ∧ RdrS w' b (s.bytes k).2 ∧ Ext [b] w w' := by
  obtain ⟨hz, A, n, c, h⟩ := h
  have HR := Lib.hid h
  have c0 := h.bk.cell 0
  have c1 : w.cell? ⟨b, 1, none⟩ = some (.int .i64 s.err) := h.bk.cell 1
  have f0 := h.bk.free 0
  have hln := h.ln
  have hnc := h.nc
  have hcm := h.cm
  clear h
  by_cases he : s.err = 0
  · obtain ⟨l, err⟩ := s
    obtain rfl : err = 0 := he
    dsimp only at *
    by_cases hk : k < 0 ∨ (l.length : Int) < k
    · have hs : RS.bytes ⟨l, 0⟩ k = ([], ⟨[], 3⟩) := by unfold RS.bytes; rw [if_neg (by simp), if_pos hk]
      have HS := Lib.hid hs
      have H0 : RdrS w b ⟨l, 0⟩ := ⟨hz, A, n, c, HR.out⟩
      have H := Lib.hid H0
      have hk2 : k < 0 ∨ (n : Int) < k := by rw [← hln]; exact hk
      clear hs H0 hk hln hz
      by_cases hk3 : k < 0
      · clear hk2
        go_enter Try.func55, Try.ntmps55
        go_wp2_with (go_at_call 58; refine (rfail_any b 3 _ _ H.out).mono ?_; rintro e w3 ⟨rfl, h1, h2⟩; have H3 := Lib.hid h1; have H4 := Lib.hid h2; clear h1 h2)
        go_ret
        rw [HS.out]
        exact ⟨none, 0, 0, rfl, Rd.nil_ _ _ _ _, rfl, Nat.le_refl _, by omega, fun h => absurd h (by simp), H3.out, H4.out⟩
      · have hk4 : (n : Int) < k := by omega
        clear hk2
        go_enter Try.func55, Try.ntmps55
        go_wp2_with (go_at_call 58; refine (rfail_any b 3 _ _ H.out).mono ?_; rintro e w3 ⟨rfl, h1, h2⟩; have H3 := Lib.hid h1; have H4 := Lib.hid h2; clear h1 h2)
        go_ret
        rw [HS.out]
        exact ⟨none, 0, 0, rfl, Rd.nil_ _ _ _ _, rfl, Nat.le_refl _, by omega, fun h => absurd h (by simp), H3.out, H4.out⟩
    · obtain ⟨q, rfl⟩ : ∃ q : Nat, k = q := ⟨k.toNat, by omega⟩
      have hqn : q ≤ n := by omega
      have hs : RS.bytes ⟨l, 0⟩ q = (l.take q, ⟨l.drop q, 0⟩) := by unfold RS.bytes; rw [if_neg (by simp), if_neg hk]; rfl
      have HS := Lib.hid hs
      have HZ := Lib.hid hz
      have HL := Lib.hid hln
      clear hs hk hz hln
      go_enter Try.func55, Try.ntmps55
      go_wp2_with (at_builtin; refine wpList_appL _ rfl (.const (.slice none 0 0)) (.tmp 33) _ rfl 5 (.int .u8 0) 1 rowB u8v u8v_cell w.heap.size _ [] rfl (Own.none_ u8v 5 _ _) w.heap.size A q c (l.take q) rfl (HR.out.rd.take q) (by have := HL.out; simp; omega) (l.take q) q rfl (by have := HL.out; simp; omega) (by have := HL.out; have := HZ.out; omega) (by have := HL.out; have := HZ.out; omega) (Nat.le_refl _) ?_; intro A2 c2 w2 hown2 hgr2 hc3 hA2; have HB2 : Hid (Rdr w2 b A n c l 0) := HR.out.ext (m := []) (Ext.of_below (hgr2.below (Below.refl _ _) ownBlock_nil (Nat.le_refl _)) _) (by simp) (by simp); have c02 := HB2.out.bk.cell 0; have f02 := HB2.out.bk.free 0; have HO2 := Lib.hid hown2; have HG2 := Lib.hid hgr2; clear hown2 hgr2 hA2)
      all_goals
        have hcap := HO2.out.cap
        unfold maxLen at hcap
        go_ret
        rw [HS.out]
        refine ⟨_, _, _, rfl, (rdr_rd HB2.out HO2.out.rd _ _ _).more (by simp [World.setCell]), by have := HL.out; simp; omega, by omega, by omega, HO2.out.fresh, ⟨by have := HZ.out; simp; omega, _, _, _, rdr_set HB2.out _ _ _ _ ?_ (by have := HL.out; simp; omega) (by omega) (by omega)⟩, ?_⟩
        · first
            | (have h := HB2.out.rd.drop (k := q) (cap := c) (by have := HL.out; omega) (by have := HL.out; omega); rwa [if_neg (by assumption)] at h)
            | (have h := HB2.out.rd.drop (k := q) (cap := q) (by have := HL.out; omega) (by have := HL.out; omega); rwa [if_pos rfl] at h)
        · exact ((Ext.refl _ w).trans (Ext.of_below (HG2.out.below (Below.refl _ _) ownBlock_nil (Nat.le_refl _)) _)).set_ (.inl (by simp)) _
  · have hs : RS.bytes s k = ([], s) := by unfold RS.bytes; rw [if_pos he]
    have he2 : (s.err == 0) = false := by simpa using he
    have HS := Lib.hid hs
    clear hs he
    go_enter Try.func55, Try.ntmps55
    go_wp2
    go_ret
    rw [HS.out]
    exact ⟨none, 0, 0, rfl, Rd.nil_ _ _ _ _, rfl, Nat.le_refl _, by omega, fun h => absurd h (by simp), ⟨hz, A, n, c, HR.out⟩, Ext.refl _ _⟩

/-- The next byte. -/
def RS.byte (s : RS) : Int := (((s.bytes 1).1.getD 0 0).toNat : Int)
set_option maxHeartbeats 1000000 in
theorem rbyte_any (b : Nat) (s : RS) (w : World) (h : RdrS w b s) :
    Calls Try.prog 56 #[.pointer (some ⟨b, 0, none⟩)] w fun x w' => x = .returned (.int .u8 s.byte) ∧ RdrS w' b (s.bytes 1).2 ∧ Ext [b] w w' := by
  have H := Lib.hid h
  clear h
  obtain ⟨out, hout⟩ : ∃ out, out = (s.bytes 1).1 := ⟨_, rfl⟩
  have hb : s.byte = ((out.getD 0 0).toNat : Int) := by rw [hout]; rfl
  rw [hb]
  have HO := Lib.hid hout
  clear hb hout
  cases out with
  | nil =>
    go_enter Try.func56, Try.ntmps56
    go_wp2_with (go_at_call 55; refine (rbytes_any b 1 s _ H.out).mono ?_; rintro e w2 ⟨A2, n2, c2, rfl, h1, h2, h3, h4, h5, h6, h7⟩; rw [← HO.out] at h1 h2; obtain rfl : n2 = 0 := h2.symm; have H6 := Lib.hid h6; have H7 := Lib.hid h7; clear h1 h2 h5 h6 h7)
    go_ret
    exact ⟨rfl, H6.out, H7.out⟩
  | cons x r =>
    go_enter Try.func56, Try.ntmps56
    go_wp2_with (go_at_call 55; refine (rbytes_any b 1 s _ H.out).mono ?_; rintro e w2 ⟨A2, n2, c2, rfl, h1, h2, h3, h4, h5, h6, h7⟩; rw [← HO.out] at h1 h2; obtain ⟨g, off, rfl, _, hc⟩ := h1.at_ (k := 0) (by simp); have hn2 : 0 < n2 := (by rw [← h2]; simp); have hn3 : ((n2 : Int) == 0) = false := (by simp; omega); have H6 := Lib.hid h6; have H7 := Lib.hid h7; simp only [List.getElem_cons_zero, Nat.add_zero, u8v] at hc; clear h1 h2 h5 h6 h7)
    go_ret
    exact ⟨rfl, H6.out, H7.out⟩
/-- The next bytes, their number ahead. -/
def RS.long (s : RS) (k : Int) : List UInt8 × RS := (s.count k).2.bytes (s.count k).1
set_option maxHeartbeats 1000000 in
theorem rlong_any (b : Nat) (k : Int) (s : RS) (w : World) (h : RdrS w b s) (hk : -9223372036854775808 ≤ k ∧ k ≤ 9223372036854775807) :
    Calls Try.prog 57 #[.pointer (some ⟨b, 0, none⟩), .int .i64 k] w fun x w' => ∃ A2 n2 c2, x = .returned (.slice A2 n2 c2) ∧ Rd u8v w' w'.heap.size A2 (s.long k).1 ∧ (s.long k).1.length = n2 ∧ n2 ≤ c2 ∧ c2 ≤ 9223372036854775807 ∧ Fresh w.heap.size A2 n2 ∧ RdrS w' b (s.long k).2 ∧ Ext [b] w w' := by
  have H := Lib.hid h
  clear h
  go_enter Try.func57, Try.ntmps57
  go_wp2_with (first
    | (go_at_call 55; refine (rbytes_any b _ _ _ H1.out).mono ?_; rintro e w3 ⟨A2, n2, c2, rfl, h1, h2, h3, h4, h5, h6, h7⟩; have HA := Lib.hid h1; have HN := Lib.hid h2; have H5 := Lib.hid h5; have H6 := Lib.hid h6; have H7 := Lib.hid h7; clear h1 h2 h5 h6 h7)
    | (go_at_call 54; refine (rcount_any b k s _ H.out hk).mono ?_; rintro e w2 ⟨rfl, h1, h2⟩; have H1 := Lib.hid h1; have H2 := Lib.hid h2; clear h1 h2))
  go_ret
  exact ⟨A2, n2, c2, rfl, HA.out, HN.out, by omega, by omega, H5.out.mono H2.out.size, H6.out, H2.out.trans H7.out⟩
theorem rleft_any (b : Nat) (s : RS) (w : World) (h : RdrS w b s) :
    Calls Try.prog 60 #[.pointer (some ⟨b, 0, none⟩)] w fun x w' => x = .returned (.int .i64 s.l.length) ∧ w = w' := by
  obtain ⟨hz, A, n, c, h⟩ := h
  have c0 := h.bk.cell 0
  have hn := Lib.hid h.ln
  clear h hz
  go_enter Try.func60, Try.ntmps60
  go_wp2
  go_ret
  rw [hn.out]
  exact ⟨rfl, rfl⟩
theorem rerr_any (b : Nat) (s : RS) (w : World) (h : RdrS w b s) :
    Calls Try.prog 59 #[.pointer (some ⟨b, 0, none⟩)] w fun x w' => x = .returned (.int .i64 s.err) ∧ w = w' := by
  obtain ⟨hz, A, n, c, h⟩ := h
  have c0 : w.cell? ⟨b, 1, none⟩ = some (.int .i64 s.err) := h.bk.cell 1
  clear h hz
  go_enter Try.func59, Try.ntmps59
  go_wp2
  go_ret
  exact ⟨rfl, rfl⟩
/-- How it ends. -/
def RS.end_ (s : RS) : RS := if s.l.length = 0 then s else s.fail 24
set_option maxHeartbeats 1000000 in
theorem rend_any (b : Nat) (s : RS) (w : World) (h : RdrS w b s) :
    Calls Try.prog 61 #[.pointer (some ⟨b, 0, none⟩)] w fun x w' => x = .returned (.int .i64 s.end_.err) ∧ RdrS w' b s.end_ ∧ Ext [b] w w' := by
  have H := Lib.hid h
  clear h
  by_cases hl : s.l.length = 0
  · have hs : s.end_ = s := by unfold RS.end_; rw [if_pos hl]
    have HS := Lib.hid hs
    have HL := Lib.hid hl
    clear hs hl
    go_enter Try.func61, Try.ntmps61
    go_wp2_with (first
      | (go_at_call 59; refine (rerr_any b s _ H.out).mono ?_; rintro e w3 ⟨rfl, rfl⟩)
      | (go_at_call 60; refine (rleft_any b s _ H.out).mono ?_; rintro e w3 ⟨rfl, rfl⟩; rw [HL.out]))
    go_ret
    rw [HS.out]
    exact ⟨rfl, H.out, Ext.refl _ _⟩
  · have hs : s.end_ = s.fail 24 := by unfold RS.end_; rw [if_neg hl]
    have HS := Lib.hid hs
    have hl2 : 0 < s.l.length := by omega
    clear hs hl
    go_enter Try.func61, Try.ntmps61
    go_wp2_with (first
      | (go_at_call 59; refine (rerr_any b _ _ H1.out).mono ?_; rintro e w3 ⟨rfl, rfl⟩)
      | (go_at_call 58; refine (rfail_any b 24 s _ H.out).mono ?_; rintro e w3 ⟨rfl, h1, h2⟩; have H1 := Lib.hid h1; have H2 := Lib.hid h2; clear h1 h2)
      | (go_at_call 60; refine (rleft_any b s _ H.out).mono ?_; rintro e w3 ⟨rfl, rfl⟩))
    go_ret
    rw [HS.out]
    exact ⟨rfl, H1.out, H2.out⟩
set_option maxHeartbeats 1000000 in
theorem read_any (A : Option Addr) (n c : Nat) (l : List UInt8) (B : Nat) (w : World) (hr : Rd u8v w B A l) (hl : l.length = n) (hz : n ≤ 140737488355328) (hB : B ≤ w.heap.size) :
    Calls Try.prog 47 #[.slice A n c] w fun x w' => ∃ b, x = .returned (.pointer (some ⟨b, 0, none⟩)) ∧ w.heap.size ≤ b ∧ RdrS w' b ⟨l, 0⟩ ∧ Ext [] w w' := by
  have HR := Lib.hid hr
  have HL := Lib.hid hl
  clear hr hl
  go_enter Try.func47, Try.ntmps47
  go_wp2_with (at_builtin; refine wpList_appL _ rfl (.const (.slice none 0 0)) (.tmp 3) _ rfl 5 (.int .u8 0) 1 rowB u8v u8v_cell w.heap.size _ [] rfl (Own.none_ u8v 5 _ _) w.heap.size A n c l rfl (HR.out.more hB) HL.out l n rfl HL.out (by omega) (by omega) (Nat.le_refl _) ?_; intro A2 c2 w2 hown2 hgr2 hc3 hA2; have hsz := hgr2.size; have HO2 := Lib.hid hown2; have HG2 := Lib.hid hgr2; clear hown2 hgr2 hA2)
  go_ret
  have hcap := HO2.out.cap
  unfold maxLen at hcap
  exact ⟨w2.heap.size, rfl, hsz, ⟨by rw [HL.out]; exact hz, A2, n, c2, ⟨Blk.new _ _ _, (HO2.out.rd.alloc (Nat.le_refl _) _).more (by simp), HL.out, by omega, by omega⟩⟩, (Ext.of_below (HG2.out.below (Below.refl _ _) ownBlock_nil (Nat.le_refl _)) _).alloc _⟩
/-! ### Sizes -/
theorem RS.fail_le (s : RS) (e : Int) : (s.fail e).l.length ≤ s.l.length := by unfold RS.fail; split <;> simp
theorem RS.next_le (s : RS) : s.next.l.length ≤ s.l.length := by unfold RS.next; split; exact Nat.le_refl _; split <;> simp
theorem RS.bytes_le (s : RS) (k : Int) : (s.bytes k).2.l.length ≤ s.l.length ∧ (s.bytes k).1.length ≤ s.l.length := by unfold RS.bytes; split; simp; split <;> simp <;> omega
theorem RS.count_le (s : RS) (k : Int) : (s.count k).2.l.length ≤ s.l.length := by
  have := s.next_le; have := s.next.fail_le 2
  unfold RS.count; (repeat' split) <;> (try dsimp only) <;> omega
theorem RS.least_le (s : RS) : s.least.2.l.length ≤ s.l.length := by
  have := s.next_le; have := s.next.fail_le 4
  unfold RS.least; split <;> (try split) <;> (try dsimp only) <;> omega
theorem RS.long_le (s : RS) (k : Int) : (s.long k).2.l.length ≤ s.l.length ∧ (s.long k).1.length ≤ s.l.length := by
  have h1 := s.count_le k; have h2 := (s.count k).2.bytes_le (s.count k).1
  unfold RS.long; omega
end Go.Proofs.Ytmpnhiehkiiepaa
