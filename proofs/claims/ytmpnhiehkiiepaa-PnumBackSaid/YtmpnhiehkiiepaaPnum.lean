/-
  Contracts of pnum.Whole and of the document's Whole. Condition: the slice's bytes are read, nothing is written.
-/
import Derived.Test.YtmpnhiehkiiepaaBase
namespace Go.Proofs.Ytmpnhiehkiiepaa
open Go.RowKit

/-- 256 ^ n, behind a name. -/
def win (n : Nat) : Int := 256 ^ n
theorem win_cases (n : Nat) (h1 : 1 ≤ n) (h4 : n ≤ 4) : win n = 256 ∨ win n = 65536 ∨ win n = 16777216 ∨ win n = 4294967296 := by
  have : n = 1 ∨ n = 2 ∨ n = 3 ∨ n = 4 := by omega
  rcases this with rfl | rfl | rfl | rfl <;> simp [win]
theorem win_shl (n : Nat) (h1 : 1 ≤ n) (h4 : n ≤ 4) : IntKind.u64.wrap (2 ^ (8 * n)) = win n := by
  have : n = 1 ∨ n = 2 ∨ n = 3 ∨ n = 4 := by omega
  rcases this with rfl | rfl | rfl | rfl <;> decide +kernel
theorem win_succ (n : Nat) : win (n + 1) = win n * 256 := by unfold win; rw [Int.pow_succ]
theorem win_pos (n : Nat) : 1 ≤ win n := by
  induction n with
  | zero => simp [win]
  | succ n ih => rw [win_succ]; omega

/-- A number behind which bytes are put. -/
def nearK (e : Int) (l : List UInt8) : Int := l.foldl (fun a c => a * 256 + c.toNat) e
theorem nearK_snoc (e : Int) (l : List UInt8) (k : Nat) (hk : k < l.length) : nearK e (l.take (k + 1)) = nearK e (l.take k) * 256 + (l[k].toNat : Int) := by
  unfold nearK; rw [List.take_succ_eq_append_getElem hk, List.foldl_append]; rfl
theorem nearK_cons (e : Int) (c : UInt8) (l : List UInt8) : nearK e (c :: l) = nearK (e * 256 + c.toNat) l := rfl
theorem nearK_eq (l : List UInt8) : ∀ e : Int, nearK e l = e * win l.length + nearK 0 l := by
  induction l with
  | nil => intro e; simp [nearK, win]
  | cons c l ih =>
    intro e
    rw [nearK_cons, ih, nearK_cons, ih (0 * 256 + _), List.length_cons, win_succ, Int.add_mul, Int.zero_mul, Int.zero_add]
    have : e * 256 * win l.length = e * (win l.length * 256) := by rw [Int.mul_assoc, Int.mul_comm 256]
    omega
theorem nearK0_bd (l : List UInt8) : 0 ≤ nearK 0 l ∧ nearK 0 l < win l.length := by
  induction l with
  | nil => simp [nearK, win]
  | cons c l ih =>
    have e0 : nearK 0 (c :: l) = (c.toNat : Int) * win l.length + nearK 0 l := by
      rw [nearK_cons, nearK_eq, Int.zero_mul, Int.zero_add]
    rw [e0, List.length_cons, win_succ]
    have hp := win_pos l.length
    have hc : (c.toNat : Int) < 256 := by have := c.toNat_lt; omega
    have h0 : 0 ≤ (c.toNat : Int) * win l.length := Int.mul_nonneg (by omega) (by omega)
    have h1 : (c.toNat : Int) * win l.length ≤ 255 * win l.length := Int.mul_le_mul_of_nonneg_right (by omega) (by omega)
    omega
theorem nearK_bd (e : Int) (l : List UInt8) (h : 0 ≤ e) : 0 ≤ nearK e l ∧ nearK e l < (e + 1) * win l.length := by
  have h0 := nearK0_bd l
  have hp : 0 ≤ e * win l.length := Int.mul_nonneg h (by have := win_pos l.length; omega)
  rw [nearK_eq, Int.add_mul]; omega

theorem u64_or_byte (x c : Int) (h0 : 0 ≤ x) (h1 : x < 18446744073709551616) (hm : x % 256 = 0) (hc : 0 ≤ c) (hd : c < 256) : bits .or .u64 x c = x + c := by
  obtain ⟨n, rfl⟩ := Int.eq_ofNat_of_zero_le h0
  obtain ⟨m, rfl⟩ := Int.eq_ofNat_of_zero_le hc
  rw [u64_or_nat n m (by omega) (by omega)]
  have h : n = 2 ^ 8 * (n / 256) := by omega
  rw [h, ← Nat.two_pow_add_eq_or_of_lt (by omega)]
  omega

/-- Of the numbers with these lowest bytes the nearest, as the program picks it. -/
def pick (n : Nat) (near exp : Int) : Int :=
  if near + win n / 2 ≤ exp ∧ near < 4611686018427387904 - win n then near + win n
  else if exp + win n / 2 < near ∧ win n ≤ near then near - win n else near
def pickF (l : List UInt8) (exp : Int) : Int := pick l.length (nearK (exp / win l.length) l) exp


theorem pick_up {n : Nat} {near exp : Int} (h1 : near + win n / 2 ≤ exp) (h2 : near < 4611686018427387904 - win n) : near + win n = pick n near exp := by
  unfold pick; rw [if_pos ⟨h1, h2⟩]
theorem pick_down {n : Nat} {near exp : Int} (h0 : 1 ≤ win n) (h1 : exp + win n / 2 < near) (h2 : win n ≤ near) : near - win n = pick n near exp := by
  unfold pick; rw [if_neg (by omega), if_pos ⟨h1, h2⟩]
theorem pick_same {n : Nat} {near exp : Int} (h1 : ¬ (near + win n / 2 ≤ exp ∧ near < 4611686018427387904 - win n)) (h2 : ¬ (exp + win n / 2 < near ∧ win n ≤ near)) : near = pick n near exp := by
  unfold pick; rw [if_neg h1, if_neg h2]

/-- The greatest that near comes to, so that the walk sees no wrap. -/
theorem near_bd (exp : Int) (l : List UInt8) (k : Nat) (hk : k ≤ l.length) (h1 : 1 ≤ l.length) (h4 : l.length ≤ 4) (he : 0 ≤ exp) (he2 : exp < 4611686018427387904) :
    0 ≤ nearK (exp / win l.length) (l.take k) ∧ nearK (exp / win l.length) (l.take k) < 4611686022722355199 ∧ (k < l.length → nearK (exp / win l.length) (l.take k) < 72057594037927936) := by
  have hb := nearK_bd (exp / win l.length) (l.take k) (Int.ediv_nonneg he (by have := win_pos l.length; omega))
  have hl : (l.take k).length = k := by simp; omega
  rw [hl] at hb
  have hw := win_cases l.length h1 h4
  have hk4 : k = 0 ∨ k = 1 ∨ k = 2 ∨ k = 3 ∨ k = 4 := by omega
  refine ⟨hb.1, ?_, fun hlt => ?_⟩
  · refine Int.lt_of_lt_of_le hb.2 ?_
    have hn : l.length = 1 ∨ l.length = 2 ∨ l.length = 3 ∨ l.length = 4 := by omega
    rcases hn with e | e | e | e <;> rw [e] at hw ⊢ <;> rcases hk4 with rfl | rfl | rfl | rfl | rfl <;> simp [win] <;> omega
  · refine Int.lt_of_lt_of_le hb.2 ?_
    have hn : l.length = 1 ∨ l.length = 2 ∨ l.length = 3 ∨ l.length = 4 := by omega
    rcases hn with e | e | e | e <;> rw [e] at hw ⊢ <;> rcases hk4 with rfl | rfl | rfl | rfl | rfl <;> simp [win] <;> omega

set_option maxHeartbeats 400000 in
theorem whole_pos (A : Option Addr) (n cap : Nat) (l : List UInt8) (g : Int) (B : Nat) (w : World) (hr : Sb w B A l) (hl : l.length = n) (hn1 : 1 ≤ n) (hn4 : n ≤ 4) (hg2 : g < 4611686018427387903) (hg0 : 0 ≤ g) :
    Calls Try.prog 16 #[.slice A n cap, .int .i64 g] w fun e w' => e = .returned (.tuple #[.int .u64 (pickF l (g + 1)), .int .i64 0]) ∧ w = w' := by
  have hW : IntKind.u64.wrap (2 ^ (8 * n)) = win n := win_shl n hn1 hn4
  have hW1 : 1 ≤ win n := win_pos n
  have hW2 : win n ≤ 4294967296 := by have := win_cases n hn1 hn4; omega
  have HR := Lib.hid hr
  have HL := Lib.hid hl
  clear hr hl
  go_enter Try.func16, Try.ntmps16
  go_wp2
  go_loop [9, 39] (fun s i => ∃ k : Nat, k ≤ n ∧ i = .int .i64 k ∧ s = .int .u64 (nearK ((g + 1) / win n) (l.take k))) (fun _ i => n - (intOf i).toNat)
  case atStart => exact ⟨0, by omega, rfl, rfl⟩
  case round =>
    obtain ⟨k, hk, rfl, rfl⟩ := hrel
    have hbd := near_bd (g + 1) l k (by rw [HL.out]; exact hk) (by rw [HL.out]; exact hn1) (by rw [HL.out]; exact hn4) (by omega) (by omega)
    rw [HL.out] at hbd
    obtain ⟨b1, b2, b3⟩ := hbd
    by_cases hlt : k < n
    · have b4 := b3 hlt
      clear b3
      obtain ⟨b, off, hA, -, hcell⟩ := HR.out.at_ (by rw [HL.out]; exact hlt)
      subst hA
      have hsn := nearK_snoc ((g + 1) / win n) l k (by rw [HL.out]; exact hlt)
      obtain ⟨c, hc⟩ : ∃ c : UInt8, c = l[k]'(by rw [HL.out]; exact hlt) := ⟨_, rfl⟩
      rw [← hc] at hsn hcell
      have HS := Lib.hid hsn
      clear hsn hc
      unfold u8v at hcell
      have hc2 := c.toNat_lt
      have hor := u64_or_byte (nearK ((g + 1) / win n) (l.take k) * 256) c.toNat (by omega) (by omega) (by omega) (by omega) (by omega)
      go_wp2
      go_round
      case rel => exact ⟨k + 1, by omega, by go_num, by rw [HS.out]⟩
      case measure => simp [intOf]; omega
    · obtain rfl : k = n := by omega
      have ht : l.take k = l := List.take_of_length_le (by rw [HL.out]; exact Nat.le_refl _)
      have hF : pickF l (g + 1) = pick k (nearK ((g + 1) / win k) (l.take k)) (g + 1) := by unfold pickF; rw [ht, HL.out]
      have HF := Lib.hid hF
      clear ht b3 hF
      go_wp2
      all_goals
        go_ret2
        refine ⟨ret_int2 ?_ rfl, rfl⟩
        rw [HF.out]
        first | exact pick_up (by omega) (by omega) | exact pick_down (by omega) (by omega) (by omega) | exact pick_same (by omega) (by omega)

set_option maxHeartbeats 400000 in
theorem whole_neg (A : Option Addr) (n cap : Nat) (l : List UInt8) (g : Int) (B : Nat) (w : World) (hr : Sb w B A l) (hl : l.length = n) (hn1 : 1 ≤ n) (hn4 : n ≤ 4) (hg0 : g < 0) (hg2 : -9223372036854775808 ≤ g) :
    Calls Try.prog 16 #[.slice A n cap, .int .i64 g] w fun e w' => e = .returned (.tuple #[.int .u64 (pickF l 0), .int .i64 0]) ∧ w = w' := by
  have hW : IntKind.u64.wrap (2 ^ (8 * n)) = win n := win_shl n hn1 hn4
  have hW1 : 1 ≤ win n := win_pos n
  have hW2 : win n ≤ 4294967296 := by have := win_cases n hn1 hn4; omega
  have HR := Lib.hid hr
  have HL := Lib.hid hl
  clear hr hl
  go_enter Try.func16, Try.ntmps16
  go_wp2
  go_loop [9, 39] (fun s i => ∃ k : Nat, k ≤ n ∧ i = .int .i64 k ∧ s = .int .u64 (nearK 0 (l.take k))) (fun _ i => n - (intOf i).toNat)
  case atStart => exact ⟨0, by omega, rfl, rfl⟩
  case round =>
    obtain ⟨k, hk, rfl, rfl⟩ := hrel
    have hbd := near_bd 0 l k (by rw [HL.out]; exact hk) (by rw [HL.out]; exact hn1) (by rw [HL.out]; exact hn4) (by omega) (by omega)
    rw [HL.out, Int.zero_ediv] at hbd
    obtain ⟨b1, b2, b3⟩ := hbd
    by_cases hlt : k < n
    · have b4 := b3 hlt
      clear b3
      obtain ⟨b, off, hA, -, hcell⟩ := HR.out.at_ (by rw [HL.out]; exact hlt)
      subst hA
      have hsn := nearK_snoc 0 l k (by rw [HL.out]; exact hlt)
      obtain ⟨c, hc⟩ : ∃ c : UInt8, c = l[k]'(by rw [HL.out]; exact hlt) := ⟨_, rfl⟩
      rw [← hc] at hsn hcell
      have HS := Lib.hid hsn
      clear hsn hc
      unfold u8v at hcell
      have hc2 := c.toNat_lt
      have hor := u64_or_byte (nearK 0 (l.take k) * 256) c.toNat (by omega) (by omega) (by omega) (by omega) (by omega)
      go_wp2
      go_round
      case rel => exact ⟨k + 1, by omega, by go_num, by rw [HS.out]⟩
      case measure => simp [intOf]; omega
    · obtain rfl : k = n := by omega
      have ht : l.take k = l := List.take_of_length_le (by rw [HL.out]; exact Nat.le_refl _)
      have hF : pickF l 0 = pick k (nearK 0 (l.take k)) 0 := by unfold pickF; rw [ht, HL.out, Int.zero_ediv]
      have HF := Lib.hid hF
      clear ht b3 hF
      go_wp2
      all_goals
        go_ret2
        refine ⟨ret_int2 ?_ rfl, rfl⟩
        rw [HF.out]
        first | exact pick_up (by omega) (by omega) | exact pick_down (by omega) (by omega) (by omega) | exact pick_same (by omega) (by omega)


theorem whole_size (A : Option Addr) (n cap : Nat) (g : Int) (w : World) (hn : n < 1 ∨ 4 < n) (hm : n ≤ 9223372036854775807) :
    Calls Try.prog 16 #[.slice A n cap, .int .i64 g] w fun e w' => e = .returned (.tuple #[.int .u64 0, .int .i64 6]) ∧ w = w' := by
  go_enter Try.func16, Try.ntmps16
  rcases hn with hn | hn
  all_goals
    go_wp2
    go_ret2
    exact ⟨rfl, rfl⟩
theorem whole_range (A : Option Addr) (n cap : Nat) (g : Int) (w : World) (hn1 : 1 ≤ n) (hn4 : n ≤ 4) (hg : 4611686018427387903 ≤ g) :
    Calls Try.prog 16 #[.slice A n cap, .int .i64 g] w fun e w' => e = .returned (.tuple #[.int .u64 0, .int .i64 2]) ∧ w = w' := by
  go_enter Try.func16, Try.ntmps16
  go_wp2
  go_ret2
  exact ⟨rfl, rfl⟩

/-! ### The document's answer -/
def awayF (a b : Int) : Int := if b < a then a - b else b - a
theorem awayF_spec (a b : Int) : (b < a ∧ awayF a b = a - b) ∨ (a ≤ b ∧ awayF a b = b - a) := by unfold awayF; split <;> omega
theorem pick_spec (n : Nat) (near exp : Int) : ((near + win n / 2 ≤ exp ∧ near < 4611686018427387904 - win n) ∧ pick n near exp = near + win n) ∨
    (¬ (near + win n / 2 ≤ exp ∧ near < 4611686018427387904 - win n) ∧ (exp + win n / 2 < near ∧ win n ≤ near) ∧ pick n near exp = near - win n) ∨
    (¬ (near + win n / 2 ≤ exp ∧ near < 4611686018427387904 - win n) ∧ ¬ (exp + win n / 2 < near ∧ win n ≤ near) ∧ pick n near exp = near) := by
  unfold pick
  split
  · rename_i h; exact .inl ⟨h, rfl⟩
  · rename_i h
    split
    · rename_i h'; exact .inr (.inl ⟨h, h', rfl⟩)
    · rename_i h'; exact .inr (.inr ⟨h, h', rfl⟩)
theorem away_any (a b : Int) (w : World) (ha : 0 ≤ a) (hb : 0 ≤ b) (ha2 : a ≤ 9223372036854775807) (hb2 : b ≤ 9223372036854775807) :
    Calls Try.prog 62 #[.int .u64 a, .int .u64 b] w fun e w' => e = .returned (.int .u64 (awayF a b)) ∧ w = w' := by
  by_cases h : b < a
  · go_enter Try.func62, Try.ntmps62
    go_wp2
    go_ret
    exact ⟨ret_int (by rw [awayF, if_pos h]), rfl⟩
  · go_enter Try.func62, Try.ntmps62
    go_wp2
    go_ret
    exact ⟨ret_int (by rw [awayF, if_neg (by omega)]), rfl⟩

set_option maxHeartbeats 1000000 in
theorem refWhole_any (l : List UInt8) (n : Nat) (exp : Int) (w : World) (hl : l.length = n) (hn1 : 1 ≤ n) (hn4 : n ≤ 4) (he : 0 ≤ exp) (he2 : exp < 4611686018427387904) :
    Calls Try.prog 17 #[.int .u64 (nearK 0 l), .int .i64 n, .int .u64 exp] w fun e w' => e = .returned (.int .u64 (pickF l exp)) ∧ w = w' := by
  have hb := nearK0_bd l
  rw [hl] at hb
  have hW1 : 1 ≤ win n := win_pos n
  have hW2 : win n ≤ 4294967296 := by have := win_cases n hn1 hn4; omega
  have hm1 : 0 ≤ exp % win n := Int.emod_nonneg _ (by omega)
  have hm2 : exp % win n < win n := Int.emod_lt_of_pos _ (by omega)
  have hm3 : exp % win n ≤ exp := by
    have h1 := Int.mul_ediv_add_emod exp (win n)
    have h2 : 0 ≤ win n * (exp / win n) := Int.mul_nonneg (by omega) (Int.ediv_nonneg he (by omega))
    omega
  obtain ⟨low, hlow⟩ : ∃ low, low = nearK 0 l := ⟨_, rfl⟩
  rw [← hlow] at hb ⊢
  have HLow := Lib.hid hlow
  have HL := Lib.hid hl
  clear hl hlow
  obtain ⟨hb1, hb2⟩ := hb
  go_enter Try.func17, Try.ntmps17
  go_wp2
  go_loop [7, 8] (fun v i => ∃ k : Nat, k ≤ n ∧ i = .int .i64 k ∧ v = .int .u64 (win k)) (fun _ i => n - (intOf i).toNat)
  case atStart => exact ⟨0, by omega, rfl, rfl⟩
  case round =>
    obtain ⟨k, hk, rfl, rfl⟩ := hrel
    by_cases hlt : k < n
    · have hk4 : win k ≤ 16777216 := by
        have : k = 0 ∨ k = 1 ∨ k = 2 ∨ k = 3 := by omega
        rcases this with rfl | rfl | rfl | rfl <;> simp [win]
      have hk1 := win_pos k
      have HS := Lib.hid (win_succ k)
      go_wp2
      go_round
      case rel => exact ⟨k + 1, by omega, by go_num, by rw [HS.out]⟩
      case measure => simp [intOf]; omega
    · obtain rfl : k = n := by omega
      obtain ⟨base, hbase⟩ : ∃ base, base = exp - exp % win k + low := ⟨_, rfl⟩
      have hP : pickF l exp = pick k base exp := by
        unfold pickF
        rw [HL.out, nearK_eq, HL.out, ← HLow.out, hbase]
        have := Int.mul_ediv_add_emod exp (win k)
        rw [Int.mul_comm] at this
        congr 1
        omega
      have HP := Lib.hid hP
      have HB := Lib.hid hbase
      clear hP hbase
      go_wp2_with (go_at_call 62; refine (away_any _ _ _ (by omega) (by omega) (by omega) (by omega)).mono ?_; rintro e w' ⟨rfl, rfl⟩)
      all_goals
        go_ret
        refine ⟨ret_int ?_, rfl⟩
        rw [HP.out, ← HB.out]
        have hb := HB.out
        have hw := win_cases k hn1 hn4
        have A1 := awayF_spec (exp - exp % win k + low + win k) exp
        have A2 := awayF_spec (exp - exp % win k + low) exp
        have A3 := awayF_spec (exp - exp % win k + low - win k) exp
        have A4 := pick_spec k base exp
        omega

end Go.Proofs.Ytmpnhiehkiiepaa
