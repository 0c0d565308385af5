/-
  Contracts of vint.Put and of the document's Wide and Put.
-/
import Derived.Test.YtmpnhiehkiiepaaVintW
import Derived.RegionCalls
import Derived.Deep.RegionWith
namespace Go.Proofs.Ytmpnhiehkiiepaa
open Go.RowKit

theorem lenF_ok (n : Int) (h1 : lenF n ≠ 0) : ∃ k : Nat, lenF n = k ∧ okSize k := by
  rcases lenF_spec n with ⟨_, h⟩ | ⟨_, _, h⟩ | ⟨_, _, h⟩ | ⟨_, _, h⟩ | ⟨_, h⟩
  · exact ⟨1, h, .inl rfl⟩
  · exact ⟨2, h, .inr (.inl rfl)⟩
  · exact ⟨4, h, .inr (.inr (.inl rfl))⟩
  · exact ⟨8, h, .inr (.inr (.inr rfl))⟩
  · exact absurd h h1

theorem refWide_not (n k : Int) (w : World) (h0 : 0 ≤ n) (hk : ¬ (lenF n ≠ 0 ∧ lenF n ≤ k ∧ (k = 1 ∨ k = 2 ∨ k = 4 ∨ k = 8))) (_hk1 : -9223372036854775808 ≤ k) (_hk2 : k ≤ 9223372036854775807) :
    Calls Try.prog 31 #[.int .u64 n, .int .i64 k] w fun e w' => e = .returned (.slice none 0 0) ∧ w = w' := by
  have hs := lenF_spec n
  obtain ⟨v, hv⟩ : ∃ v, v = lenF n := ⟨_, rfl⟩
  rw [← hv] at hs hk
  have hvb : 0 ≤ v ∧ v ≤ 8 := by omega
  have HV := Lib.hid hv
  clear hv hs
  by_cases hv0 : v = 0
  · subst hv0
    clear hk
    go_enter Try.func31, Try.ntmps31
    go_wp2_with (go_at_call 27; refine (refLen_any n _ h0).mono ?_; rintro e w' ⟨rfl, rfl⟩; rw [← HV.out])
    go_ret
    exact ⟨rfl, rfl⟩
  · have hv1 : (v == 0) = false := by simpa using hv0
    by_cases hkv : k < v
    · clear hk
      go_enter Try.func31, Try.ntmps31
      go_wp2_with (go_at_call 27; refine (refLen_any n _ h0).mono ?_; rintro e w' ⟨rfl, rfl⟩; rw [← HV.out])
      go_ret
      exact ⟨rfl, rfl⟩
    · have hk' : ¬ (k = 1 ∨ k = 2 ∨ k = 4 ∨ k = 8) := by omega
      clear hk
      go_enter Try.func31, Try.ntmps31
      go_wp2_with (first | (go_at_call 27; refine (refLen_any n _ h0).mono ?_; rintro e w' ⟨rfl, rfl⟩; rw [← HV.out]) | (go_at_call 66; refine (top_not k _ (by omega) (by omega) (by omega) (by omega)).mono ?_; rintro e w' ⟨rfl, rfl⟩))
      go_ret
      exact ⟨rfl, rfl⟩

theorem wideF_1 (n : Int) (h0 : 0 ≤ n) (hn : n < 64) : (wideF n 1).map u8v = [.int .u8 (n % 256)] := by
  obtain ⟨_, e2⟩ := head_toNat 1 (by unfold okSize; omega) n h0 (by simp; omega)
  have hc : cutF n 1 = [byteAt n 0] := rfl
  unfold wideF
  rw [hc]
  simp only [List.set_cons_zero, List.map_cons, List.map_nil, u8v]
  rw [e2]
  simp [topB]
  omega
set_option maxHeartbeats 2000000 in
theorem refWide_1 (n : Int) (w : World) (h0 : 0 ≤ n) (h1 : lenF n ≠ 0) (h2 : lenF n ≤ 1) :
    Calls Try.prog 31 #[.int .u64 n, .int .i64 1] w fun e w' => ∃ A' c', e = .returned (.slice A' 1 c') ∧
      Own u8v 5 w' w.heap.size (.slice A' 1 c') (wideF n 1) ∧ Below w.heap.size w w' ∧ A' ≠ none := by
  have hs := lenF_spec n
  have hn : n < 64 := by omega
  have HN := Lib.hid (wideF_1 n h0 hn)
  obtain ⟨v, hv⟩ : ∃ v, v = lenF n := ⟨_, rfl⟩
  rw [← hv] at hs h1 h2
  have HV := Lib.hid hv
  have hv1 : (v == 0) = false := by simpa using h1
  clear hv hs h1
  have key : ∀ W, Calls Try.prog 66 #[.int .i64 1] W fun e w' => e = .returned (.int .i64 0) ∧ W = w' := fun W => top_ok 1 W (by unfold okSize; omega)
  have HKEY := Lib.hid key
  clear key
  go_enter Try.func31, Try.ntmps31
  go_wp2_with (first | (go_at_call 27; refine (refLen_any n _ h0).mono ?_; rintro e w' ⟨rfl, rfl⟩; rw [← HV.out]) | (go_at_call 66; refine (HKEY.out _).mono ?_; rintro e w' ⟨rfl, rfl⟩))
  go_rounds 2
  go_region_with (go_at_call 66; refine (HKEY.out _).mono ?_; rintro e w' ⟨rfl, rfl⟩)
  all_goals
    go_wp2_with (at_builtin; refine wpList_appL _ rfl (.tmp 41) (.tmp 43) _ rfl 5 (.int .u8 0) 1 rowB u8v u8v_one w.heap.size _ [] rfl (Own.drew (Own.empty u8v 5 _ _ _ (by simp) (by omega))) (w.heap.size + 1) _ 1 8 (wideF n 1) rfl ((Rd.new u8v w _ _ _ (by first | exact HN.out.symm | (rw [HN.out]; simp))).alloc (by simp) _).drew (by simp) (wideF n 1) 1 rfl (by simp) (by omega) (by omega) (by simp; omega) ?_; intro A1 c1 w1 hown1 hgr1 hc1 hA1)
    go_ret
    refine ⟨A1, c1, rfl, hown1, hgr1.below ((((Below.refl _ _).alloc (Nat.le_refl _) _).alloc (by simp) _).drew) ?_ ?_, fun h => ?_⟩
    · exact ownBlock_ge (by simp)
    · simp; omega
    · have := hA1.1 h; simp at this
theorem wideF_2 (n : Int) (h0 : 0 ≤ n) (hn : n < 16384) : (wideF n 2).map u8v = [.int .u8 (n / 256 % 256 + 64), .int .u8 (n % 256)] := by
  obtain ⟨_, e2⟩ := head_toNat 2 (by unfold okSize; omega) n h0 (by simp; omega)
  have b := byteAt_toNat n h0
  have hc : cutF n 2 = [byteAt n 1, byteAt n 0] := rfl
  unfold wideF
  rw [hc]
  simp only [List.set_cons_zero, List.map_cons, List.map_nil, u8v]
  rw [e2]
  simp [b, topB]
  omega
set_option maxHeartbeats 2000000 in
theorem refWide_2 (n : Int) (w : World) (h0 : 0 ≤ n) (h1 : lenF n ≠ 0) (h2 : lenF n ≤ 2) :
    Calls Try.prog 31 #[.int .u64 n, .int .i64 2] w fun e w' => ∃ A' c', e = .returned (.slice A' 2 c') ∧
      Own u8v 5 w' w.heap.size (.slice A' 2 c') (wideF n 2) ∧ Below w.heap.size w w' ∧ A' ≠ none := by
  have hs := lenF_spec n
  have hn : n < 16384 := by omega
  have HN := Lib.hid (wideF_2 n h0 hn)
  obtain ⟨v, hv⟩ : ∃ v, v = lenF n := ⟨_, rfl⟩
  rw [← hv] at hs h1 h2
  have HV := Lib.hid hv
  have hv1 : (v == 0) = false := by simpa using h1
  clear hv hs h1
  have key : ∀ W, Calls Try.prog 66 #[.int .i64 2] W fun e w' => e = .returned (.int .i64 64) ∧ W = w' := fun W => top_ok 2 W (by unfold okSize; omega)
  have HKEY := Lib.hid key
  clear key
  go_enter Try.func31, Try.ntmps31
  go_wp2_with (first | (go_at_call 27; refine (refLen_any n _ h0).mono ?_; rintro e w' ⟨rfl, rfl⟩; rw [← HV.out]) | (go_at_call 66; refine (HKEY.out _).mono ?_; rintro e w' ⟨rfl, rfl⟩))
  go_rounds 3
  go_region_with (go_at_call 66; refine (HKEY.out _).mono ?_; rintro e w' ⟨rfl, rfl⟩)
  all_goals
    go_wp2_with (at_builtin; refine wpList_appL _ rfl (.tmp 41) (.tmp 43) _ rfl 5 (.int .u8 0) 1 rowB u8v u8v_one w.heap.size _ [] rfl (Own.drew (Own.empty u8v 5 _ _ _ (by simp) (by omega))) (w.heap.size + 1) _ 2 8 (wideF n 2) rfl ((Rd.new u8v w _ _ _ (by first | exact HN.out.symm | (rw [HN.out]; simp))).alloc (by simp) _).drew (by simp) (wideF n 2) 2 rfl (by simp) (by omega) (by omega) (by simp; omega) ?_; intro A1 c1 w1 hown1 hgr1 hc1 hA1)
    go_ret
    refine ⟨A1, c1, rfl, hown1, hgr1.below ((((Below.refl _ _).alloc (Nat.le_refl _) _).alloc (by simp) _).drew) ?_ ?_, fun h => ?_⟩
    · exact ownBlock_ge (by simp)
    · simp; omega
    · have := hA1.1 h; simp at this
theorem wideF_4 (n : Int) (h0 : 0 ≤ n) (hn : n < 1073741824) : (wideF n 4).map u8v = [.int .u8 (n / 256 / 256 / 256 % 256 + 128), .int .u8 (n / 256 / 256 % 256), .int .u8 (n / 256 % 256), .int .u8 (n % 256)] := by
  obtain ⟨_, e2⟩ := head_toNat 4 (by unfold okSize; omega) n h0 (by simp; omega)
  have b := byteAt_toNat n h0
  have hc : cutF n 4 = [byteAt n 3, byteAt n 2, byteAt n 1, byteAt n 0] := rfl
  unfold wideF
  rw [hc]
  simp only [List.set_cons_zero, List.map_cons, List.map_nil, u8v]
  rw [e2]
  simp [b, topB]
  omega
set_option maxHeartbeats 2000000 in
theorem refWide_4 (n : Int) (w : World) (h0 : 0 ≤ n) (h1 : lenF n ≠ 0) (h2 : lenF n ≤ 4) :
    Calls Try.prog 31 #[.int .u64 n, .int .i64 4] w fun e w' => ∃ A' c', e = .returned (.slice A' 4 c') ∧
      Own u8v 5 w' w.heap.size (.slice A' 4 c') (wideF n 4) ∧ Below w.heap.size w w' ∧ A' ≠ none := by
  have hs := lenF_spec n
  have hn : n < 1073741824 := by omega
  have HN := Lib.hid (wideF_4 n h0 hn)
  obtain ⟨v, hv⟩ : ∃ v, v = lenF n := ⟨_, rfl⟩
  rw [← hv] at hs h1 h2
  have HV := Lib.hid hv
  have hv1 : (v == 0) = false := by simpa using h1
  clear hv hs h1
  have key : ∀ W, Calls Try.prog 66 #[.int .i64 4] W fun e w' => e = .returned (.int .i64 128) ∧ W = w' := fun W => top_ok 4 W (by unfold okSize; omega)
  have HKEY := Lib.hid key
  clear key
  go_enter Try.func31, Try.ntmps31
  go_wp2_with (first | (go_at_call 27; refine (refLen_any n _ h0).mono ?_; rintro e w' ⟨rfl, rfl⟩; rw [← HV.out]) | (go_at_call 66; refine (HKEY.out _).mono ?_; rintro e w' ⟨rfl, rfl⟩))
  go_rounds 5
  go_region_with (go_at_call 66; refine (HKEY.out _).mono ?_; rintro e w' ⟨rfl, rfl⟩)
  all_goals
    go_wp2_with (at_builtin; refine wpList_appL _ rfl (.tmp 41) (.tmp 43) _ rfl 5 (.int .u8 0) 1 rowB u8v u8v_one w.heap.size _ [] rfl (Own.drew (Own.empty u8v 5 _ _ _ (by simp) (by omega))) (w.heap.size + 1) _ 4 8 (wideF n 4) rfl ((Rd.new u8v w _ _ _ (by first | exact HN.out.symm | (rw [HN.out]; simp))).alloc (by simp) _).drew (by simp) (wideF n 4) 4 rfl (by simp) (by omega) (by omega) (by simp; omega) ?_; intro A1 c1 w1 hown1 hgr1 hc1 hA1)
    go_ret
    refine ⟨A1, c1, rfl, hown1, hgr1.below ((((Below.refl _ _).alloc (Nat.le_refl _) _).alloc (by simp) _).drew) ?_ ?_, fun h => ?_⟩
    · exact ownBlock_ge (by simp)
    · simp; omega
    · have := hA1.1 h; simp at this
theorem wideF_8 (n : Int) (h0 : 0 ≤ n) (hn : n < 4611686018427387904) : (wideF n 8).map u8v = [.int .u8 (n / 256 / 256 / 256 / 256 / 256 / 256 / 256 % 256 + 192), .int .u8 (n / 256 / 256 / 256 / 256 / 256 / 256 % 256), .int .u8 (n / 256 / 256 / 256 / 256 / 256 % 256), .int .u8 (n / 256 / 256 / 256 / 256 % 256), .int .u8 (n / 256 / 256 / 256 % 256), .int .u8 (n / 256 / 256 % 256), .int .u8 (n / 256 % 256), .int .u8 (n % 256)] := by
  obtain ⟨_, e2⟩ := head_toNat 8 (by unfold okSize; omega) n h0 (by simp; omega)
  have b := byteAt_toNat n h0
  have hc : cutF n 8 = [byteAt n 7, byteAt n 6, byteAt n 5, byteAt n 4, byteAt n 3, byteAt n 2, byteAt n 1, byteAt n 0] := rfl
  unfold wideF
  rw [hc]
  simp only [List.set_cons_zero, List.map_cons, List.map_nil, u8v]
  rw [e2]
  simp [b, topB]
  omega
set_option maxHeartbeats 2000000 in
theorem refWide_8 (n : Int) (w : World) (h0 : 0 ≤ n) (h1 : lenF n ≠ 0) (h2 : lenF n ≤ 8) :
    Calls Try.prog 31 #[.int .u64 n, .int .i64 8] w fun e w' => ∃ A' c', e = .returned (.slice A' 8 c') ∧
      Own u8v 5 w' w.heap.size (.slice A' 8 c') (wideF n 8) ∧ Below w.heap.size w w' ∧ A' ≠ none := by
  have hs := lenF_spec n
  have hn : n < 4611686018427387904 := by omega
  have HN := Lib.hid (wideF_8 n h0 hn)
  obtain ⟨v, hv⟩ : ∃ v, v = lenF n := ⟨_, rfl⟩
  rw [← hv] at hs h1 h2
  have HV := Lib.hid hv
  have hv1 : (v == 0) = false := by simpa using h1
  clear hv hs h1
  have key : ∀ W, Calls Try.prog 66 #[.int .i64 8] W fun e w' => e = .returned (.int .i64 192) ∧ W = w' := fun W => top_ok 8 W (by unfold okSize; omega)
  have HKEY := Lib.hid key
  clear key
  go_enter Try.func31, Try.ntmps31
  go_wp2_with (first | (go_at_call 27; refine (refLen_any n _ h0).mono ?_; rintro e w' ⟨rfl, rfl⟩; rw [← HV.out]) | (go_at_call 66; refine (HKEY.out _).mono ?_; rintro e w' ⟨rfl, rfl⟩))
  go_rounds 9
  go_region_with (go_at_call 66; refine (HKEY.out _).mono ?_; rintro e w' ⟨rfl, rfl⟩)
  all_goals
    go_wp2_with (at_builtin; refine wpList_appL _ rfl (.tmp 41) (.tmp 43) _ rfl 5 (.int .u8 0) 1 rowB u8v u8v_one w.heap.size _ [] rfl (Own.drew (Own.empty u8v 5 _ _ _ (by simp) (by omega))) (w.heap.size + 1) _ 8 8 (wideF n 8) rfl ((Rd.new u8v w _ _ _ (by first | exact HN.out.symm | (rw [HN.out]; simp))).alloc (by simp) _).drew (by simp) (wideF n 8) 8 rfl (by simp) (by omega) (by omega) (by simp; omega) ?_; intro A1 c1 w1 hown1 hgr1 hc1 hA1)
    go_ret
    refine ⟨A1, c1, rfl, hown1, hgr1.below ((((Below.refl _ _).alloc (Nat.le_refl _) _).alloc (by simp) _).drew) ?_ ?_, fun h => ?_⟩
    · exact ownBlock_ge (by simp)
    · simp; omega
    · have := hA1.1 h; simp at this

theorem refWide_ok (n : Int) (k : Nat) (w : World) (h0 : 0 ≤ n) (hk : okSize k) (h1 : lenF n ≠ 0) (h2 : lenF n ≤ k) :
    Calls Try.prog 31 #[.int .u64 n, .int .i64 k] w fun e w' => ∃ A' c', e = .returned (.slice A' k c') ∧
      Own u8v 5 w' w.heap.size (.slice A' k c') (wideF n k) ∧ Below w.heap.size w w' ∧ A' ≠ none := by
  rcases hk with rfl | rfl | rfl | rfl
  · exact refWide_1 n w h0 h1 h2
  · exact refWide_2 n w h0 h1 h2
  · exact refWide_4 n w h0 h1 h2
  · exact refWide_8 n w h0 h1 h2
theorem refPut_ok (n : Int) (w : World) (h0 : 0 ≤ n) (h1 : lenF n ≠ 0) :
    Calls Try.prog 29 #[.int .u64 n] w fun e w' => ∃ A' N c', e = .returned (.slice A' N c') ∧
      Own u8v 5 w' w.heap.size (.slice A' N c') (putF n) ∧ Below w.heap.size w w' ∧ A' ≠ none := by
  obtain ⟨k, hk, hok⟩ := lenF_ok n h1
  have key := fun W => refWide_ok n k W h0 hok h1 (by omega)
  have HKEY := Lib.hid key
  have HK := Lib.hid hk
  clear key hk h1 hok
  go_enter Try.func29, Try.ntmps29
  go_wp2_with (first | (go_at_call 27; refine (refLen_any n _ h0).mono ?_; rintro e w' ⟨rfl, rfl⟩; rw [HK.out]) | (go_at_call 31; refine (HKEY.out _).mono ?_; rintro e w1 ⟨A1, c1, rfl, hown1, hb1, hA1⟩))
  go_ret
  refine ⟨A1, k, c1, rfl, ?_, hb1, hA1⟩
  unfold putF
  rw [HK.out]
  exact hown1
theorem refPut_not (n : Int) (w : World) (h0 : 0 ≤ n) (h1 : lenF n = 0) :
    Calls Try.prog 29 #[.int .u64 n] w fun e w' => e = .returned (.slice none 0 0) ∧ w = w' := by
  have key := fun W => refWide_not n 0 W h0 (by omega) (by omega) (by omega)
  have HKEY := Lib.hid key
  have HK := Lib.hid h1
  clear key h1
  go_enter Try.func29, Try.ntmps29
  go_wp2_with (first | (go_at_call 27; refine (refLen_any n _ h0).mono ?_; rintro e w' ⟨rfl, rfl⟩; rw [HK.out]) | (go_at_call 31; refine (HKEY.out _).mono ?_; rintro e w1 ⟨rfl, rfl⟩))
  go_ret
  exact ⟨rfl, rfl⟩
end Go.Proofs.Ytmpnhiehkiiepaa
