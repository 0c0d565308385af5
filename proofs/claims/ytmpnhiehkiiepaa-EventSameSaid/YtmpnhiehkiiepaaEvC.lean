/-
  Contracts of event's Check and of the law's Light. No condition.
-/
import Derived.Test.YtmpnhiehkiiepaaEvK
import Derived.Test.YtmpnhiehkiiepaaU64
import Derived.Deep.QuietTactic
import Derived.BigQuiet
import Derived.IntWalk
namespace Go.Proofs.Ytmpnhiehkiiepaa
open Go.RowKit

/-- What Check says of an event. -/
def checkF (k : Nat) (t : Int) (ns : List Int) (m : Nat) : Int :=
  if ¬ (1 ≤ k ∧ k ≤ 19) then 5 else if 1125899906842624 < t then 21 else if ns.length ≠ (evNames k).length then 6
  else if 20 < m ∨ (0 < m ∧ evData k = false) then 4 else if ∃ x ∈ ns, 4611686018427387903 < x then 2 else 0
theorem of_yes (k : Nat) (w : World) (hk : 1 ≤ k ∧ k ≤ 19) : Calls Try.prog 22 #[.int .u8 k] w fun e w' => ∃ A c nm, e = .returned (.tuple #[.agg #[.string nm, .slice A (evNames k).length c, .bool (evData k)], .bool true]) ∧ Below w.heap.size w w' := by
  refine (of_any k w (by omega)).mono ?_
  rintro e w' ⟨A, n, c, rfl, _, hn, hb⟩
  rw [Int.toNat_natCast] at hn ⊢
  subst hn
  exact ⟨A, c, _, by rw [show evOk k = true from by unfold evOk; simp; omega], hb⟩
theorem of_no (k : Nat) (w : World) (hk : ¬ (1 ≤ k ∧ k ≤ 19)) : Calls Try.prog 22 #[.int .u8 k] w fun e w' => ∃ A n c nm d, e = .returned (.tuple #[.agg #[.string nm, .slice A n c, .bool d], .bool false]) ∧ Below w.heap.size w w' := by
  refine (of_any k w (by omega)).mono ?_
  rintro e w' ⟨A, n, c, rfl, _, hn, hb⟩
  rw [Int.toNat_natCast]
  exact ⟨A, n, c, _, _, by rw [show evOk k = false from by unfold evOk; simp; omega], hb⟩

set_option maxHeartbeats 1000000 in
theorem check_no (k : Nat) (t : Int) (A : Option Addr) (n c : Nat) (B : Option Addr) (m d : Nat) (w : World) (hk : ¬ (1 ≤ k ∧ k ≤ 19)) :
    Calls Try.prog 35 #[.agg #[.int .u8 k, .int .u64 t, .slice A n c, .slice B m d]] w fun e w' => e = .returned (.int .i64 5) ∧ Below w.heap.size w w' := by
  have HK := Lib.hid hk
  clear hk
  go_enter Try.func35, Try.ntmps35
  go_wp2_with (go_at_call 22; refine (of_no k _ HK.out).mono ?_; rintro e w1 ⟨A1, n1, c1, nm, d1, rfl, hb1⟩; have HB1 := Lib.hid hb1; clear hb1)
  have h1 := below_then ((Below.refl w.heap.size w).alloc (Nat.le_refl _) _) HB1.out
  exact bodyPost_ret (results_tmp rfl _ _ _) rfl ⟨rfl, h1.alloc h1.size _⟩

set_option maxHeartbeats 1000000 in
theorem check_in (k : Nat) (t : Int) (A : Option Addr) (n c : Nat) (B : Option Addr) (m d : Nat) (ns : List Int) (w : World) (q : Nat) (dt : Bool)
    (hof : ∀ w1 : World, Calls Try.prog 22 #[.int .u8 k] w1 fun e w' => ∃ A c nm, e = .returned (.tuple #[.agg #[.string nm, .slice A q c, .bool dt], .bool true]) ∧ Below w1.heap.size w1 w')
    (hr : Rd u64v w w.heap.size A ns) (hn : ns.length = n) (hn63 : n ≤ 9223372036854775807) :
    Calls Try.prog 35 #[.agg #[.int .u8 k, .int .u64 t, .slice A n c, .slice B m d]] w fun e w' =>
      e = .returned (.int .i64 (if 1125899906842624 < t then 21 else if n ≠ q then 6 else if 20 < m ∨ (0 < m ∧ dt = false) then 4 else if ∃ x ∈ ns, 4611686018427387903 < x then 2 else 0)) ∧ Below w.heap.size w w' := by
  have HOF := Lib.hid hof
  have HR := Lib.hid hr
  have HN := Lib.hid hn
  clear hof hr hn
  by_cases ht : 1125899906842624 < t
  · rw [if_pos ht]
    go_enter Try.func35, Try.ntmps35
    go_wp2_with (go_at_call 22; refine (HOF.out _).mono ?_; rintro e w1 ⟨A1, c1, nm, rfl, hb1⟩; have k1 := fun o => kept_alloc hb1 o 1 _ rfl; have k2 := fun o => kept_alloc hb1 o 2 _ rfl; have k3 := fun o => kept_alloc hb1 o 3 _ rfl; have HB1 := Lib.hid hb1; clear hb1)
    have h1 := below_then ((Below.refl w.heap.size w).alloc (Nat.le_refl _) _) HB1.out
    exact bodyPost_ret (results_tmp rfl _ _ _) rfl ⟨rfl, h1.alloc h1.size _⟩
  · rw [if_neg ht]
    by_cases hnq : n = q
    · rw [if_neg (by simpa using hnq)]
      subst hnq
      by_cases hm : 20 < m
      · rw [if_pos (.inl hm)]
        have hm' : (20 : Int) < (m : Int) := by omega
        go_enter Try.func35, Try.ntmps35
        go_wp2_with (go_at_call 22; refine (HOF.out _).mono ?_; rintro e w1 ⟨A1, c1, nm, rfl, hb1⟩; have k1 := fun o => kept_alloc hb1 o 1 _ rfl; have k2 := fun o => kept_alloc hb1 o 2 _ rfl; have k3 := fun o => kept_alloc hb1 o 3 _ rfl; have HB1 := Lib.hid hb1; clear hb1)
        have h1 := below_then ((Below.refl w.heap.size w).alloc (Nat.le_refl _) _) HB1.out
        exact bodyPost_ret (results_tmp rfl _ _ _) rfl ⟨rfl, h1.alloc h1.size _⟩
      · have hm' : ¬ (20 : Int) < (m : Int) := by omega
        by_cases hd : 0 < m ∧ dt = false
        · rw [if_pos (.inr hd)]
          obtain ⟨hm0, rfl⟩ := hd
          have hm2 : (0 : Int) < (m : Int) := by omega
          go_enter Try.func35, Try.ntmps35
          go_wp2_with (go_at_call 22; refine (HOF.out _).mono ?_; rintro e w1 ⟨A1, c1, nm, rfl, hb1⟩; have k1 := fun o => kept_alloc hb1 o 1 _ rfl; have k2 := fun o => kept_alloc hb1 o 2 _ rfl; have k3 := fun o => kept_alloc hb1 o 3 _ rfl; have HB1 := Lib.hid hb1; clear hb1)
          have h1 := below_then ((Below.refl w.heap.size w).alloc (Nat.le_refl _) _) HB1.out
          exact bodyPost_ret (results_tmp rfl _ _ _) rfl ⟨rfl, h1.alloc h1.size _⟩
        · rw [if_neg (show ¬ (20 < m ∨ (0 < m ∧ dt = false)) from fun h => h.elim hm hd)]
          have hmi : (m = 0 ∧ True) ∨ ((0 : Int) < (m : Int) ∧ dt = true) := by
            rcases Nat.eq_zero_or_pos m with h | h
            · exact .inl ⟨h, trivial⟩
            · exact .inr ⟨by omega, by cases dt; exact absurd ⟨h, rfl⟩ hd; rfl⟩
          clear hd
          obtain ⟨z, hz⟩ : ∃ z : Int, z = if ∃ x ∈ ns, 4611686018427387903 < x then 2 else 0 := ⟨_, rfl⟩
          rw [← hz]
          have HZ := Lib.hid hz
          clear hz
          rcases hmi with ⟨rfl, hmi⟩ | ⟨hmi, rfl⟩
          all_goals
            go_enter Try.func35, Try.ntmps35
            go_wp2_with (go_at_call 22; refine (HOF.out _).mono ?_; rintro e w1 ⟨A1, c1, nm, rfl, hb1⟩; have k1 := fun o => kept_alloc hb1 o 1 _ rfl; have k2 := fun o => kept_alloc hb1 o 2 _ rfl; have k3 := fun o => kept_alloc hb1 o 3 _ rfl; have HB1 := Lib.hid hb1; clear hb1)
            have HW : Hid (Below w.heap.size w w1) := below_then ((Below.refl w.heap.size w).alloc (Nat.le_refl _) _) HB1.out
            generalize hw2 : w1.alloc (.cells _ 40) = w2
            have HW2 : Hid (Below w.heap.size w w2) := by unfold Hid; rw [← hw2]; exact below_alloc HW.out (Nat.le_refl _) _
            clear hw2
            go_loopw [45] (fun i wr => ∃ j : Nat, j ≤ n ∧ i = .int .i64 j ∧ Hid (∀ x ∈ ns.take j, ¬ 4611686018427387903 < x) ∧ wr = w2) (fun i _ => n - (intOf i).toNat)
            case atStart => exact ⟨0, by omega, rfl, by simp [Hid], rfl⟩
            case round =>
              obtain ⟨j, hj, rfl, HJ, rfl⟩ := hrel
              by_cases hlt : j < n
              · have hjl : j < ns.length := by have := HN.out; omega
                obtain ⟨g, off, hA, -, hcell⟩ := (HR.out.below HW2.out (Nat.le_refl _)).at_ hjl
                subst hA
                obtain ⟨x, hx⟩ : ∃ x, x = ns[j] := ⟨_, rfl⟩
                have HX : Hid (ns[j] = x) := hx.symm
                rw [← hx] at hcell
                clear hx
                unfold u64v at hcell
                have hji : (j : Int) < (n : Int) := by omega
                by_cases hbig : 4611686018427387903 < x
                · go_wp2
                  go_ret
                  refine ⟨?_, HW2.out⟩
                  rw [HZ.out, if_pos ⟨x, by rw [← HX.out]; exact List.getElem_mem hjl, hbig⟩]; rfl
                · go_wp2
                  case roundEnd =>
                    refine ⟨⟨j + 1, by omega, rfl, Lib.hid ?_, trivial⟩, ?_⟩
                    · rw [List.take_succ_eq_append_getElem hjl, HX.out]
                      intro y hy
                      rcases List.mem_append.1 hy with hy | hy
                      · exact HJ.out y hy
                      · simp at hy; subst hy; omega
                    · show _ - (((j : Int) + 1).toNat) < _ - ((j : Int).toNat)
                      omega
              · obtain rfl : j = n := by omega
                go_wp2
                go_ret
                refine ⟨?_, HW2.out⟩
                rw [HZ.out, if_neg]
                · rfl
                rintro ⟨x, hx, hbig⟩
                have hall := HJ.out
                rw [List.take_of_length_le (by rw [HN.out]; exact Nat.le_refl _)] at hall
                have := hall x hx
                omega
    · rw [if_pos hnq]
      have hnq' : ¬ (n : Int) = (q : Int) := by omega
      go_enter Try.func35, Try.ntmps35
      go_wp2_with (go_at_call 22; refine (HOF.out _).mono ?_; rintro e w1 ⟨A1, c1, nm, rfl, hb1⟩; have k1 := fun o => kept_alloc hb1 o 1 _ rfl; have k2 := fun o => kept_alloc hb1 o 2 _ rfl; have k3 := fun o => kept_alloc hb1 o 3 _ rfl; have HB1 := Lib.hid hb1; clear hb1)
      have h1 := below_then ((Below.refl w.heap.size w).alloc (Nat.le_refl _) _) HB1.out
      exact bodyPost_ret (results_tmp rfl _ _ _) rfl ⟨rfl, h1.alloc h1.size _⟩

theorem check_any (k : Nat) (t : Int) (A : Option Addr) (n c : Nat) (B : Option Addr) (m d : Nat) (ns : List Int) (w : World) (hr : Rd u64v w w.heap.size A ns) (hn : ns.length = n) (hn63 : n ≤ 9223372036854775807) :
    Calls Try.prog 35 #[.agg #[.int .u8 k, .int .u64 t, .slice A n c, .slice B m d]] w fun e w' => e = .returned (.int .i64 (checkF k t ns m)) ∧ Below w.heap.size w w' := by
  unfold checkF
  by_cases hk : 1 ≤ k ∧ k ≤ 19
  · rw [if_neg (by simpa using hk), hn]
    exact check_in k t A n c B m d ns w _ _ (fun w1 => of_yes k w1 hk) hr hn hn63
  · rw [if_pos hk]
    exact check_no k t A n c B m d w hk

/-- An event as the cells have it. -/
structure EvV where
  k : Nat
  t : Int
  A : Option Addr
  n : Nat
  c : Nat
  B : Option Addr
  m : Nat
  d : Nat
def EvV.cells (x : EvV) : List Value := [.int .u8 x.k, .int .u64 x.t, .slice x.A x.n x.c, .slice x.B x.m x.d]
/-- A row of events. -/
def RdE (w : World) (B : Nat) (A : Option Addr) (es : List EvV) : Prop :=
  0 < es.length → ∃ b off, A = some ⟨b, off, none⟩ ∧ b < B ∧ ∀ j x, es[j]? = some x → ∀ i v, x.cells[i]? = some v → w.cell? ⟨b, off + j * 4 + i, none⟩ = some v
theorem RdE.below {w w' : World} {B B' : Nat} {A : Option Addr} {es : List EvV} (h : RdE w B A es) (hb : Below B' w w') (hB : B ≤ B') : RdE w' B A es := by
  intro hn
  obtain ⟨b, off, e, hlt, hc⟩ := h hn
  exact ⟨b, off, e, hlt, fun j x hx i v hv => (hb.cell (p := ⟨b, off + j * 4 + i, none⟩) (Nat.lt_of_lt_of_le hlt hB)).trans (hc j x hx i v hv)⟩
theorem RdE.at_ {w : World} {B : Nat} {A : Option Addr} {es : List EvV} (h : RdE w B A es) {j : Nat} {x : EvV} (hj : es[j]? = some x) :
    ∃ b off, A = some ⟨b, off, none⟩ ∧ b < B ∧ w.cell? ⟨b, off + j * 4, none⟩ = some (.int .u8 x.k) ∧ w.cell? ⟨b, off + j * 4 + 1, none⟩ = some (.int .u64 x.t) ∧ w.cell? ⟨b, off + j * 4 + 2, none⟩ = some (.slice x.A x.n x.c) ∧ w.cell? ⟨b, off + j * 4 + 3, none⟩ = some (.slice x.B x.m x.d) := by
  obtain ⟨b, off, e, hlt, hc⟩ := h (by have := (List.getElem?_eq_some_iff.1 hj).1; omega)
  exact ⟨b, off, e, hlt, hc j x hj 0 _ rfl, hc j x hj 1 _ rfl, hc j x hj 2 _ rfl, hc j x hj 3 _ rfl⟩
def lightF (es : List EvV) : Bool := decide (∀ x ∈ es, x.n ≤ 30 ∧ x.m ≤ 100) && decide (es.length ≤ 60)
theorem light_false {es : List EvV} {j : Nat} {x : EvV} (hj : es[j]? = some x) (h : ¬ (x.n ≤ 30 ∧ x.m ≤ 100)) : lightF es = false := by
  have : decide (∀ x ∈ es, x.n ≤ 30 ∧ x.m ≤ 100) = false := decide_eq_false fun ha => h (ha x (List.mem_of_getElem? hj))
  unfold lightF
  rw [this, Bool.false_and]
theorem light_all {es : List EvV} (h : ∀ x ∈ es, x.n ≤ 30 ∧ x.m ≤ 100) : lightF es = decide ((es.length : Int) ≤ 60) := by
  unfold lightF
  rw [decide_eq_true h, Bool.true_and]
  exact decide_eq_decide.2 (by omega)
theorem ret_bool {a b : Bool} (h : a = b) : Ending.returned (.bool a) = .returned (.bool b) := by rw [h]

set_option maxHeartbeats 1000000 in
theorem light_any (A : Option Addr) (n c : Nat) (es : List EvV) (w : World) (hr : RdE w w.heap.size A es) (hn : es.length = n) (hn63 : n ≤ 9223372036854775807) :
    Calls Try.prog 34 #[.slice A n c] w fun e w' => e = .returned (.bool (lightF es)) ∧ Below w.heap.size w w' := by
  obtain ⟨z, hz⟩ : ∃ z, z = lightF es := ⟨_, rfl⟩
  rw [← hz]
  have HZ := Lib.hid hz
  have HR := Lib.hid hr
  have HN := Lib.hid hn
  clear hr hn hz
  go_enter Try.func34, Try.ntmps34
  go_wp2
  go_loopw [7] (fun i wr => ∃ j : Nat, j ≤ n ∧ i = .int .i64 j ∧ Hid (∀ x ∈ es.take j, x.n ≤ 30 ∧ x.m ≤ 100) ∧ Hid (Below w.heap.size w wr)) (fun i _ => n - (intOf i).toNat)
  case atStart => exact ⟨0, by omega, rfl, by simp [Hid], Below.refl _ _⟩
  case round =>
    obtain ⟨j, hj, rfl, HJ, HB⟩ := hrel
    by_cases hlt : j < n
    · have hjl : j < es.length := by have := HN.out; omega
      obtain ⟨⟨k, t, A1, n1, c1, B1, m1, d1⟩, hx⟩ : ∃ x, es[j]? = some x := ⟨_, List.getElem?_eq_getElem hjl⟩
      obtain ⟨b, off, hA, -, h0, h1, h2, h3⟩ := (HR.out.below HB.out (Nat.le_refl _)).at_ hx
      subst hA
      have HX := Lib.hid hx
      clear hx
      simp only at h0 h1 h2 h3
      have hji : (j : Int) < (n : Int) := by omega
      by_cases hbig : 30 < n1
      · have hbi : (30 : Int) < (n1 : Int) := by omega
        go_wp2
        obtain rfl : z = false := by rw [HZ.out, light_false HX.out (by simp; omega)]
        exact bodyPost_ret (results_tmp rfl _ _ _) rfl ⟨rfl, below_alloc HB.out (Nat.le_refl _) _⟩
      · have hbi : ¬ (30 : Int) < (n1 : Int) := by omega
        by_cases hbig2 : 100 < m1
        · have hbi2 : (100 : Int) < (m1 : Int) := by omega
          go_wp2
          obtain rfl : z = false := by rw [HZ.out, light_false HX.out (by simp; omega)]
          exact bodyPost_ret (results_tmp rfl _ _ _) rfl ⟨rfl, below_alloc HB.out (Nat.le_refl _) _⟩
        · have hbi2 : ¬ (100 : Int) < (m1 : Int) := by omega
          go_wp2
          case roundEnd =>
            refine ⟨⟨j + 1, by omega, rfl, Lib.hid ?_, below_alloc HB.out (Nat.le_refl _) _⟩, ?_⟩
            · have hx := HX.out
              intro y hy
              rw [List.take_add_one, hx] at hy
              rcases List.mem_append.1 hy with hy | hy
              · exact HJ.out y hy
              · simp at hy; subst hy; simp only; omega
            · show _ - (((j : Int) + 1).toNat) < _ - ((j : Int).toNat)
              omega
    · obtain rfl : j = n := by omega
      go_wp2
      have hall := HJ.out
      rw [List.take_of_length_le (by rw [HN.out]; exact Nat.le_refl _)] at hall
      obtain rfl : z = decide ((j : Int) ≤ 60) := by rw [HZ.out, light_all hall, HN.out]
      exact bodyPost_ret (results_tmp rfl _ _ _) rfl ⟨rfl, HB.out⟩
end Go.Proofs.Ytmpnhiehkiiepaa
