/-
  Contracts of vint.Len, vint.mark, vint.Take and of the document's Len, Top, Take. Nothing is written.
-/
import Derived.Test.YtmpnhiehkiiepaaVint
import Derived.Test.YtmpnhiehkiiepaaMem
namespace Go.Proofs.Ytmpnhiehkiiepaa
open Go.RowKit

theorem rowB : RowT Try.prog 22 5 (.int .u8 0) 1 := ⟨Try.underlying22, by kernel_rfl, rfl⟩

theorem len_any (n : Int) (w : World) (_h0 : 0 ≤ n) : Calls Try.prog 26 #[.int .u64 n] w fun e w' => e = .returned (.int .i64 (lenF n)) ∧ w = w' := by
  rcases lenF_spec n with ⟨c1, hs⟩ | ⟨c1, c2, hs⟩ | ⟨c1, c2, hs⟩ | ⟨c1, c2, hs⟩ | ⟨c1, hs⟩
  all_goals
    have HS := Lib.hid hs
    clear hs
    go_enter Try.func26, Try.ntmps26
    go_wp2
    go_ret
    exact ⟨ret_int HS.out.symm, rfl⟩
theorem refLen_any (n : Int) (w : World) (_h0 : 0 ≤ n) : Calls Try.prog 27 #[.int .u64 n] w fun e w' => e = .returned (.int .i64 (lenF n)) ∧ w = w' := by
  rcases lenF_spec n with ⟨c1, hs⟩ | ⟨c1, c2, hs⟩ | ⟨c1, c2, hs⟩ | ⟨c1, c2, hs⟩ | ⟨c1, hs⟩
  all_goals
    have HS := Lib.hid hs
    clear hs
    go_enter Try.func27, Try.ntmps27
    go_wp2
    go_ret
    exact ⟨ret_int HS.out.symm, rfl⟩

theorem ret_u8_bool {a b : Int} {c : Bool} (h : a = b) : Ending.returned (.tuple #[.int .u8 a, .bool c]) = .returned (.tuple #[.int .u8 b, .bool c]) := by rw [h]
theorem mark_ok (k : Nat) (w : World) (hk : okSize k) : Calls Try.prog 64 #[.int .i64 k] w fun e w' => e = .returned (.tuple #[.int .u8 (topB k), .bool true]) ∧ w = w' := by
  rcases hk with rfl | rfl | rfl | rfl
  all_goals
    go_enter Try.func64, Try.ntmps64
    go_wp2
    go_ret2
    exact ⟨ret_u8_bool rfl, rfl⟩
theorem mark_not (k : Int) (w : World) (h1 : k ≠ 1) (h2 : k ≠ 2) (h3 : k ≠ 4) (h4 : k ≠ 8) : Calls Try.prog 64 #[.int .i64 k] w fun e w' => e = .returned (.tuple #[.int .u8 0, .bool false]) ∧ w = w' := by
  go_enter Try.func64, Try.ntmps64
  go_wp2
  go_ret2
  exact ⟨rfl, rfl⟩
theorem top_ok (k : Nat) (w : World) (hk : okSize k) : Calls Try.prog 66 #[.int .i64 k] w fun e w' => e = .returned (.int .i64 (topB k)) ∧ w = w' := by
  rcases hk with rfl | rfl | rfl | rfl
  all_goals
    go_enter Try.func66, Try.ntmps66
    go_wp2
    go_ret
    exact ⟨ret_int rfl, rfl⟩
theorem top_not (k : Int) (w : World) (h1 : k ≠ 1) (h2 : k ≠ 2) (h3 : k ≠ 4) (h4 : k ≠ 8) : Calls Try.prog 66 #[.int .i64 k] w fun e w' => e = .returned (.int .i64 (-1)) ∧ w = w' := by
  go_enter Try.func66, Try.ntmps66
  go_wp2
  go_ret
  exact ⟨rfl, rfl⟩

theorem take_nil (A : Option Addr) (cap : Nat) (w : World) : Calls Try.prog 32 #[.slice A 0 cap] w fun e w' => e = .returned (.tuple #[.int .u64 0, .int .i64 0, .int .i64 3]) ∧ w = w' := by
  go_enter Try.func32, Try.ntmps32
  go_wp2
  go_ret3
  exact ⟨rfl, rfl⟩

theorem takeN_eq (c : UInt8) (r : List UInt8) (h : ¬ r.length + 1 < 2 ^ (c.toNat / 64)) : takeN (c :: r) = 2 ^ (c.toNat / 64) := by unfold takeN; simp only; rw [if_neg h]
theorem takeV_eq (c : UInt8) (r : List UInt8) (h : ¬ r.length + 1 < 2 ^ (c.toNat / 64)) : takeV (c :: r) = nearK ((c.toNat : Int) % 64) (r.take (2 ^ (c.toNat / 64) - 1)) := by unfold takeV; simp only; rw [if_neg h]
theorem take_not (c : UInt8) (r : List UInt8) (h : r.length + 1 < 2 ^ (c.toNat / 64)) : takeN (c :: r) = 0 ∧ takeV (c :: r) = 0 := by unfold takeN takeV; simp only; rw [if_pos h, if_pos h]; exact ⟨rfl, rfl⟩
theorem pow_cases (c : UInt8) : 2 ^ (c.toNat / 64) = 1 ∨ 2 ^ (c.toNat / 64) = 2 ∨ 2 ^ (c.toNat / 64) = 4 ∨ 2 ^ (c.toNat / 64) = 8 := by
  have h := c.toNat_lt
  have : c.toNat / 64 = 0 ∨ c.toNat / 64 = 1 ∨ c.toNat / 64 = 2 ∨ c.toNat / 64 = 3 := by omega
  rcases this with h | h | h | h <;> rw [h] <;> simp
theorem wrap_pow (c : UInt8) : wrap64 ((2 : Int) ^ (c.toNat / 64)) = ((2 ^ (c.toNat / 64) : Nat) : Int) := by
  have h := pow_cases c
  have e : (2 : Int) ^ (c.toNat / 64) = ((2 ^ (c.toNat / 64) : Nat) : Int) := by simp
  rw [e, IntWalk.wrap64_in _ (by omega)]

theorem near7_bd (c : UInt8) (r : List UInt8) (k : Nat) (hk : k ≤ 6) : 0 ≤ nearK ((c.toNat : Int) % 64) (r.take k) ∧ nearK ((c.toNat : Int) % 64) (r.take k) < 18014398509481984 := by
  have hb := nearK_bd ((c.toNat : Int) % 64) (r.take k) (by omega)
  refine ⟨hb.1, Int.lt_of_lt_of_le hb.2 ?_⟩
  have hl : (r.take k).length = 0 ∨ (r.take k).length = 1 ∨ (r.take k).length = 2 ∨ (r.take k).length = 3 ∨ (r.take k).length = 4 ∨ (r.take k).length = 5 ∨ (r.take k).length = 6 := by
    have := List.length_take_le k r; omega
  rcases hl with h | h | h | h | h | h | h <;> rw [h] <;> simp [win] <;> omega

theorem ret3 {k k' k'' : IntKind} {a b c d e f : Int} (h : a = b) (h' : c = d) (h'' : e = f) : Ending.returned (.tuple #[.int k a, .int k' c, .int k'' e]) = .returned (.tuple #[.int k b, .int k' d, .int k'' f]) := by rw [h, h', h'']

theorem take_short (A : Option Addr) (n cap : Nat) (c : UInt8) (r : List UInt8) (B : Nat) (w : World) (hr : Sb w B A (c :: r)) (hl : r.length + 1 = n) (hm : n ≤ 9223372036854775807) (hk : takeN (c :: r) = 0) :
    Calls Try.prog 32 #[.slice A n cap] w fun e w' => e = .returned (.tuple #[.int .u64 0, .int .i64 0, .int .i64 3]) ∧ w = w' := by
  obtain ⟨b, off, hA, -, hcell0⟩ := hr.at_ (k := 0) (by simp)
  subst hA
  have hc0 : w.cell? ⟨b, off, none⟩ = some (.int .u8 c.toNat) := hcell0
  have hc2 := c.toNat_lt
  have hpw : wrap64 ((2 : Int) ^ (c.toNat / 64)) = ((2 ^ (c.toNat / 64) : Nat) : Int) := wrap_pow c
  have hlt : n < 2 ^ (c.toNat / 64) := by
    rcases Nat.lt_or_ge n (2 ^ (c.toNat / 64)) with h | h
    · exact h
    · have := takeN_eq c r (by omega); have := pow_cases c; omega
  obtain ⟨m, hm2⟩ : ∃ m, m = 2 ^ (c.toNat / 64) := ⟨_, rfl⟩
  rw [← hm2] at hpw hlt
  have hm3 : m ≤ 8 := by have := pow_cases c; omega
  clear hr hcell0 hk hm2
  have hne : ((n : Int) == 0) = false := by simp; omega
  have hn0 : 0 < n := by omega
  clear hl
  go_enter Try.func32, Try.ntmps32
  go_wp2
  go_ret3
  exact ⟨rfl, rfl⟩

set_option maxHeartbeats 1000000 in
theorem take_ok (A : Option Addr) (n cap : Nat) (c : UInt8) (r : List UInt8) (B : Nat) (w : World) (hr : Sb w B A (c :: r)) (hl : r.length + 1 = n) (hc : n ≤ cap) (hm : cap ≤ 9223372036854775807) (hk : takeN (c :: r) ≠ 0) :
    Calls Try.prog 32 #[.slice A n cap] w fun e w' => e = .returned (.tuple #[.int .u64 (takeV (c :: r)), .int .i64 (takeN (c :: r)), .int .i64 0]) ∧ w = w' := by
  obtain ⟨b, off, hA, -, hcell0⟩ := hr.at_ (k := 0) (by simp)
  subst hA
  have hc0 : w.cell? ⟨b, off, none⟩ = some (.int .u8 c.toNat) := hcell0
  have hc2 := c.toNat_lt
  have hpw : wrap64 ((2 : Int) ^ (c.toNat / 64)) = ((2 ^ (c.toNat / 64) : Nat) : Int) := wrap_pow c
  have hge : ¬ r.length + 1 < 2 ^ (c.toNat / 64) := fun h => hk (take_not c r h).1
  have eN := takeN_eq c r hge
  have eV := takeV_eq c r hge
  obtain ⟨m, hm2⟩ : ∃ m, m = 2 ^ (c.toNat / 64) := ⟨_, rfl⟩
  rw [← hm2] at hpw hge eN eV
  have hm3 : 1 ≤ m ∧ m ≤ 8 := by have := pow_cases c; omega
  have hmn : m ≤ n := by omega
  obtain ⟨hm1, hm8⟩ := hm3
  have HR := Lib.hid hr
  have HL := Lib.hid hl
  have HN := Lib.hid eN
  have HV := Lib.hid eV
  clear hr hcell0 hk hm2 eN eV hge
  have hne : ((n : Int) == 0) = false := by simp; omega
  have hn0 : 0 < n := by omega
  clear hl
  rcases (show m = 1 ∨ 2 ≤ m from by omega) with hm4 | hm4
  · subst hm4
    have hpw1 : wrap64 ((2 : Int) ^ (c.toNat / 64)) = 1 := hpw
    have HP := Lib.hid hpw
    clear hpw
    by_cases hcap : cap = 1
    all_goals
      go_enter Try.func32, Try.ntmps32
      go_wp2
      go_rounds 1
      go_ret3
      exact ⟨ret3 (by rw [HV.out]; simp [nearK]) (by rw [HN.out]; exact HP.out) rfl, rfl⟩
  · go_enter Try.func32, Try.ntmps32
    go_wp2
    go_loop [2, 29] (fun s i => ∃ k : Nat, k ≤ m - 1 ∧ i = .int .i64 k ∧ s = .int .u64 (nearK ((c.toNat : Int) % 64) (r.take k))) (fun _ i => m - (intOf i).toNat)
    case atStart => exact ⟨0, by omega, rfl, rfl⟩
    case round =>
      obtain ⟨k, hk, rfl, rfl⟩ := hrel
      by_cases hlt : k < m - 1
      · have hbd := near7_bd c r k (by omega)
        obtain ⟨b1, b2⟩ := hbd
        have hkr : k < r.length := by have := HL.out; omega
        obtain ⟨b', off', hA', -, hcell⟩ := HR.out.at_ (k := k + 1) (by simp; exact hkr)
        injection hA' with hA'
        injection hA' with hb' ho'
        subst hb'
        subst ho'
        have hsn := nearK_snoc ((c.toNat : Int) % 64) r k hkr
        have hcell2 : w.cell? ⟨b, off + 1 + k, none⟩ = some (u8v r[k]) := by rw [show off + 1 + k = off + (k + 1) from by omega]; exact hcell
        clear hcell
        obtain ⟨d, hd⟩ : ∃ d : UInt8, d = r[k] := ⟨_, rfl⟩
        rw [← hd] at hsn hcell2
        have HS := Lib.hid hsn
        clear hsn hd
        unfold u8v at hcell2
        have hd2 := d.toNat_lt
        have hor := u64_or_byte (nearK ((c.toNat : Int) % 64) (r.take k) * 256) d.toNat (by omega) (by omega) (by omega) (by omega) (by omega)
        go_wp2
        go_round
        case rel => exact ⟨k + 1, by omega, by go_num, by rw [HS.out]⟩
        case measure => simp [intOf]; omega
      · obtain rfl : k = m - 1 := by omega
        go_wp2
        go_ret3
        exact ⟨ret3 HV.out.symm (by rw [HN.out]) rfl, rfl⟩
theorem refTake_nil (A : Option Addr) (cap : Nat) (w : World) : Calls Try.prog 33 #[.slice A 0 cap] w fun e w' => e = .returned (.tuple #[.int .u64 0, .int .i64 0]) ∧ w = w' := by
  go_enter Try.func33, Try.ntmps33
  go_wp2
  go_ret2
  exact ⟨rfl, rfl⟩

set_option maxHeartbeats 2000000 in
theorem refTake_cons (A : Option Addr) (n cap : Nat) (c : UInt8) (r : List UInt8) (B : Nat) (w : World) (hr : Sb w B A (c :: r)) (hl : r.length + 1 = n) (hm : n ≤ 9223372036854775807) :
    Calls Try.prog 33 #[.slice A n cap] w fun e w' => e = .returned (.tuple #[.int .u64 (takeV (c :: r)), .int .i64 (takeN (c :: r))]) ∧ w = w' := by
  obtain ⟨b, off, hA, -, hcell0⟩ := hr.at_ (k := 0) (by simp)
  subst hA
  have hc0 : w.cell? ⟨b, off, none⟩ = some (.int .u8 c.toNat) := hcell0
  have hc2 := c.toNat_lt
  have HR := Lib.hid hr
  have HL := Lib.hid hl
  clear hr hcell0
  have hne : ((n : Int) == 0) = false := by simp; omega
  have hn0 : 0 < n := by omega
  clear hl
  rcases (show c.toNat < 64 ∨ (64 ≤ c.toNat ∧ c.toNat < 128) ∨ (128 ≤ c.toNat ∧ c.toNat < 192) ∨ 192 ≤ c.toNat from by omega) with hq | ⟨hq, hq2⟩ | ⟨hq, hq2⟩ | hq
  · have hm : 2 ^ (c.toNat / 64) = 1 := by rw [show c.toNat / 64 = 0 from by omega]
    have eN := takeN_eq c r (by rw [hm, HL.out]; omega)
    have eV := takeV_eq c r (by rw [hm, HL.out]; omega)
    rw [hm] at eN eV
    have HN := Lib.hid eN
    have HV := Lib.hid eV
    clear eN eV hm
    go_enter Try.func33, Try.ntmps33
    go_wp2
    go_rounds 1
    go_rounds 1
    go_ret2
    exact ⟨ret_int2 (by rw [HV.out]; simp [nearK]) (by rw [HN.out]; rfl), rfl⟩
  · have hm : 2 ^ (c.toNat / 64) = 2 := by rw [show c.toNat / 64 = 1 from by omega]
    by_cases hs : n < 2
    · have hz := take_not c r (by rw [hm, HL.out]; exact hs)
      have HN := Lib.hid hz.1
      have HV := Lib.hid hz.2
      clear hz hm
      go_enter Try.func33, Try.ntmps33
      go_wp2
      go_rounds 2
      go_ret2
      exact ⟨ret_int2 HV.out.symm (by rw [HN.out]; rfl), rfl⟩
    · have eN := takeN_eq c r (by rw [hm, HL.out]; exact hs)
      have eV := takeV_eq c r (by rw [hm, HL.out]; exact hs)
      rw [hm] at eN eV
      have HN := Lib.hid eN
      have HV := Lib.hid eV
      clear eN eV hm
      go_enter Try.func33, Try.ntmps33
      go_wp2
      go_rounds 2
      go_loop [6, 7] (fun s i => ∃ k : Nat, k ≤ 1 ∧ i = .int .i64 (k + 1 : Nat) ∧ s = .int .u64 (nearK ((c.toNat : Int) % 64) (r.take k))) (fun _ i => 3 - (intOf i).toNat)
      case atStart => exact ⟨0, by omega, rfl, rfl⟩
      case round =>
        obtain ⟨k, hk, rfl, rfl⟩ := hrel
        by_cases hlt : k < 1
        · have hbd := near7_bd c r k (by omega)
          obtain ⟨b1, b2⟩ := hbd
          have hkr : k < r.length := by have := HL.out; omega
          obtain ⟨b', off', hA', -, hcell⟩ := HR.out.at_ (k := k + 1) (by simp; exact hkr)
          injection hA' with hA'
          injection hA' with hb' ho'
          subst hb'
          subst ho'
          have hsn := nearK_snoc ((c.toNat : Int) % 64) r k hkr
          have hcell2 : w.cell? ⟨b, off + (k + 1), none⟩ = some (u8v r[k]) := hcell
          clear hcell
          obtain ⟨d, hd⟩ : ∃ d : UInt8, d = r[k] := ⟨_, rfl⟩
          rw [← hd] at hsn hcell2
          have HS := Lib.hid hsn
          clear hsn hd
          unfold u8v at hcell2
          have hd2 := d.toNat_lt
          go_wp2
          go_round
          case rel => exact ⟨k + 1, by omega, by go_num, by rw [HS.out]⟩
          case measure => simp [intOf]; omega
        · obtain rfl : k = 1 := by omega
          go_wp2
          go_ret2
          exact ⟨ret_int2 HV.out.symm (by rw [HN.out]; rfl), rfl⟩
  · have hm : 2 ^ (c.toNat / 64) = 4 := by rw [show c.toNat / 64 = 2 from by omega]
    by_cases hs : n < 4
    · have hz := take_not c r (by rw [hm, HL.out]; exact hs)
      have HN := Lib.hid hz.1
      have HV := Lib.hid hz.2
      clear hz hm
      go_enter Try.func33, Try.ntmps33
      go_wp2
      go_rounds 3
      go_ret2
      exact ⟨ret_int2 HV.out.symm (by rw [HN.out]; rfl), rfl⟩
    · have eN := takeN_eq c r (by rw [hm, HL.out]; exact hs)
      have eV := takeV_eq c r (by rw [hm, HL.out]; exact hs)
      rw [hm] at eN eV
      have HN := Lib.hid eN
      have HV := Lib.hid eV
      clear eN eV hm
      go_enter Try.func33, Try.ntmps33
      go_wp2
      go_rounds 3
      go_loop [6, 7] (fun s i => ∃ k : Nat, k ≤ 3 ∧ i = .int .i64 (k + 1 : Nat) ∧ s = .int .u64 (nearK ((c.toNat : Int) % 64) (r.take k))) (fun _ i => 5 - (intOf i).toNat)
      case atStart => exact ⟨0, by omega, rfl, rfl⟩
      case round =>
        obtain ⟨k, hk, rfl, rfl⟩ := hrel
        by_cases hlt : k < 3
        · have hbd := near7_bd c r k (by omega)
          obtain ⟨b1, b2⟩ := hbd
          have hkr : k < r.length := by have := HL.out; omega
          obtain ⟨b', off', hA', -, hcell⟩ := HR.out.at_ (k := k + 1) (by simp; exact hkr)
          injection hA' with hA'
          injection hA' with hb' ho'
          subst hb'
          subst ho'
          have hsn := nearK_snoc ((c.toNat : Int) % 64) r k hkr
          have hcell2 : w.cell? ⟨b, off + (k + 1), none⟩ = some (u8v r[k]) := hcell
          clear hcell
          obtain ⟨d, hd⟩ : ∃ d : UInt8, d = r[k] := ⟨_, rfl⟩
          rw [← hd] at hsn hcell2
          have HS := Lib.hid hsn
          clear hsn hd
          unfold u8v at hcell2
          have hd2 := d.toNat_lt
          go_wp2
          go_round
          case rel => exact ⟨k + 1, by omega, by go_num, by rw [HS.out]⟩
          case measure => simp [intOf]; omega
        · obtain rfl : k = 3 := by omega
          go_wp2
          go_ret2
          exact ⟨ret_int2 HV.out.symm (by rw [HN.out]; rfl), rfl⟩
  · have hm : 2 ^ (c.toNat / 64) = 8 := by rw [show c.toNat / 64 = 3 from by omega]
    by_cases hs : n < 8
    · have hz := take_not c r (by rw [hm, HL.out]; exact hs)
      have HN := Lib.hid hz.1
      have HV := Lib.hid hz.2
      clear hz hm
      go_enter Try.func33, Try.ntmps33
      go_wp2
      go_rounds 4
      go_ret2
      exact ⟨ret_int2 HV.out.symm (by rw [HN.out]; rfl), rfl⟩
    · have eN := takeN_eq c r (by rw [hm, HL.out]; exact hs)
      have eV := takeV_eq c r (by rw [hm, HL.out]; exact hs)
      rw [hm] at eN eV
      have HN := Lib.hid eN
      have HV := Lib.hid eV
      clear eN eV hm
      go_enter Try.func33, Try.ntmps33
      go_wp2
      go_rounds 4
      go_loop [6, 7] (fun s i => ∃ k : Nat, k ≤ 7 ∧ i = .int .i64 (k + 1 : Nat) ∧ s = .int .u64 (nearK ((c.toNat : Int) % 64) (r.take k))) (fun _ i => 9 - (intOf i).toNat)
      case atStart => exact ⟨0, by omega, rfl, rfl⟩
      case round =>
        obtain ⟨k, hk, rfl, rfl⟩ := hrel
        by_cases hlt : k < 7
        · have hbd := near7_bd c r k (by omega)
          obtain ⟨b1, b2⟩ := hbd
          have hkr : k < r.length := by have := HL.out; omega
          obtain ⟨b', off', hA', -, hcell⟩ := HR.out.at_ (k := k + 1) (by simp; exact hkr)
          injection hA' with hA'
          injection hA' with hb' ho'
          subst hb'
          subst ho'
          have hsn := nearK_snoc ((c.toNat : Int) % 64) r k hkr
          have hcell2 : w.cell? ⟨b, off + (k + 1), none⟩ = some (u8v r[k]) := hcell
          clear hcell
          obtain ⟨d, hd⟩ : ∃ d : UInt8, d = r[k] := ⟨_, rfl⟩
          rw [← hd] at hsn hcell2
          have HS := Lib.hid hsn
          clear hsn hd
          unfold u8v at hcell2
          have hd2 := d.toNat_lt
          go_wp2
          go_round
          case rel => exact ⟨k + 1, by omega, by go_num, by rw [HS.out]⟩
          case measure => simp [intOf]; omega
        · obtain rfl : k = 7 := by omega
          go_wp2
          go_ret2
          exact ⟨ret_int2 HV.out.symm (by rw [HN.out]; rfl), rfl⟩
end Go.Proofs.Ytmpnhiehkiiepaa
