/-
  Contracts of vint.Writer's methods. A writer is a block of two cells, its list a row of its own; nothing else is written.
-/
import Derived.Test.YtmpnhiehkiiepaaVintR
import Derived.Test.YtmpnhiehkiiepaaBlk
import Derived.Test.YtmpnhiehkiiepaaU64
import Derived.RegionTactic
import Derived.Deep.QuietTactic
import Derived.BigQuiet
namespace Go.Proofs.Ytmpnhiehkiiepaa
open Go.RowKit

/-- Block b is a writer with the list l (in the row v), that ended so. -/
def Wr (w : World) (b base : Nat) (v : Value) (l : List UInt8) (err : Int) : Prop := Blk w b 71 #[v, .int .i64 err] ∧ Own u8v 5 w base v l
/-- What numbers leave. -/
def wInts (l : List UInt8) : List Int → List UInt8 × Int
  | [] => (l, 0)
  | n :: r => if lenF n = 0 then (l, 2) else wInts (l ++ putF n) r

theorem putF_le (n : Int) : (putF n).length ≤ 8 := by
  unfold putF
  have hs := lenF_spec n
  simp
  omega
theorem Wr.ne_ {w : World} {b base : Nat} {v : Value} {l : List UInt8} {err : Int} (h : Wr w b base v l err) : some b ≠ v.ownBlock := h.2.blk_ne h.1 (by decide)

set_option maxHeartbeats 1000000 in
theorem wInt_ended (b : Nat) (A : Option Addr) (m c : Nat) (v : Value) (err : Int) (w : World) (hb : Blk w b 71 #[v, .int .i64 err]) (he : err ≠ 0) :
    Calls Try.prog 37 #[.pointer (some ⟨b, 0, none⟩), .slice A m c] w fun e w' => e = .returned (.tuple #[]) ∧ w = w' := by
  have c1 : w.cell? ⟨b, 1, none⟩ = some (.int .i64 err) := hb.cell 1
  have he2 : (err == 0) = false := by simpa using he
  clear hb he
  go_enter Try.func37, Try.ntmps37
  go_wp2
  go_returns
  exact ⟨rfl, rfl⟩

theorem wInts_cons (acc : List UInt8) (n : Int) (r : List Int) : wInts acc (n :: r) = if lenF n = 0 then (acc, 2) else wInts (acc ++ putF n) r := rfl

set_option maxRecDepth 100000 in
set_option maxHeartbeats 1000000 in
theorem wInt_ok (b base : Nat) (A : Option Addr) (m c : Nat) (v : Value) (l : List UInt8) (ns : List Int) (w : World) (hw : Wr w b base v l 0) (hr : RdA u64v w A ns b v) (hm : ns.length = m) (hns : ∀ n ∈ ns, 0 ≤ n)
    (hsz : l.length + 8 * m ≤ 70368744177664) (hbase : base ≤ w.heap.size) :
    Calls Try.prog 37 #[.pointer (some ⟨b, 0, none⟩), .slice A m c] w fun e w' => e = .returned (.tuple #[]) ∧ ∃ v', Wr w' b base v' (wInts l ns).1 (wInts l ns).2 ∧ GrowP w w' b v v' := by
  have c1 : w.cell? ⟨b, 1, none⟩ = some (.int .i64 0) := hw.1.cell 1
  have HW := Lib.hid hw
  have HR := Lib.hid hr
  have HM := Lib.hid hm
  have HN := Lib.hid hns
  clear hw hr hm hns
  go_enter Try.func37, Try.ntmps37
  go_wp2
  go_loopw [18] (fun i wr => ∃ k v' acc, k ≤ m ∧ i = .int .i64 (k : Nat) ∧ Hid (Wr wr b base v' acc 0 ∧ GrowP w wr b v v' ∧ RdA u64v wr A ns b v' ∧ wInts l ns = wInts acc (ns.drop k) ∧ acc.length ≤ l.length + 8 * k)) (fun i _ => m - (intOf i).toNat)
  case atStart => exact ⟨0, v, l, by omega, rfl, HW.out, GrowP.refl _ _ _, HR.out, rfl, by omega⟩
  case round =>
    obtain ⟨k, v', acc, hk, rfl, HI⟩ := hrel
    by_cases hlt : k < m
    · have hkl : k < ns.length := by have := HM.out; omega
      obtain ⟨g, off, hA, -, hcell⟩ := HI.out.2.2.1.1.at_ hkl
      subst hA
      obtain ⟨x, hx⟩ : ∃ x, x = ns[k] := ⟨_, rfl⟩
      have hx0 : 0 ≤ x := by rw [hx]; exact HN.out _ (List.getElem_mem hkl)
      have hdr : Hid (ns.drop k = x :: ns.drop (k + 1)) := by unfold Hid; rw [hx]; exact List.drop_eq_getElem_cons hkl
      rw [← hx] at hcell
      clear hx
      unfold u64v at hcell
      have hwr := HI.out.1
      obtain ⟨A', c', rfl, hc1, hc2, -⟩ := hwr.2.shape
      have c0 : wr.cell? ⟨b, 0, none⟩ = some (.slice A' acc.length c') := hwr.1.cell 0
      have c1r : wr.cell? ⟨b, 1, none⟩ = some (.int .i64 0) := hwr.1.cell 1
      have f1r : wr.frozen? ⟨b, 1, none⟩ = false := hwr.1.free 1
      have hbs : base ≤ wr.heap.size := Nat.le_trans hbase HI.out.2.1.size
      clear hwr
      by_cases hz : lenF x = 0
      · have HZ := Lib.hid hz
        clear hz
        go_wp2_with (go_at_call 26; refine (len_any x _ hx0).mono ?_; rintro e w' ⟨rfl, rfl⟩; rw [HZ.out])
        go_returns
        refine ⟨rfl, _, ?_, HI.out.2.1.set_ 1 (.int .i64 2)⟩
        rw [HI.out.2.2.2.1, hdr.out, wInts_cons, if_pos HZ.out]
        exact ⟨HI.out.1.1.set_ 1 _, HI.out.1.2.setCell (p := ⟨b, 1, none⟩) HI.out.1.ne_ _⟩
      · obtain ⟨j, hj, hok⟩ := lenF_ok x hz
        have HZ := Lib.hid hz
        have HJ := Lib.hid hj
        have HOK := Lib.hid hok
        have hjle : Hid (lenF x ≤ j) := by unfold Hid; rw [hj]; exact Int.le_refl _
        have hj8 : j ≤ 8 ∧ 1 ≤ j := by unfold okSize at hok; omega
        have hj0 : ((j : Int) == 0) = false := by simp; omega
        have hal : acc.length ≤ l.length + 8 * k := HI.out.2.2.2.2
        clear hz hj hok
        go_wp2_with (first | (go_at_call 26; refine (len_any x _ hx0).mono ?_; rintro e w' ⟨rfl, rfl⟩; rw [HJ.out]) | (go_at_call 65; refine (attach_any A' acc.length c' acc x j base _ HI.out.1.2 HOK.out hx0 HZ.out hjle.out (by omega) hbs).mono ?_; rintro e w2 ⟨A2, c2, rfl, hown2, hgr2, hA2⟩; have HB2 : Hid (Blk w2 b 71 #[.slice A' acc.length c', .int .i64 0]) := HI.out.1.1.grown hgr2.by_ HI.out.1.ne_; have c02 := HB2.out.cell 0; have f02 := HB2.out.free 0; have HO2 := Lib.hid hown2; have HG2 := Lib.hid hgr2; clear hown2 hgr2))
        have hgp : GrowP wr (w2.setCell ⟨b, 0, none⟩ (.slice A2 (acc.length + j) c2)) b (.slice A' acc.length c') (.slice A2 (acc.length + j) c2) := (GrowP.of HG2.out b).set_ 0 _
        have hwr2 : Wr (w2.setCell ⟨b, 0, none⟩ (.slice A2 (acc.length + j) c2)) b base (.slice A2 (acc.length + j) c2) (acc ++ wideF x j) 0 :=
          ⟨HB2.out.set_ 0 _, HO2.out.setCell (p := ⟨b, 0, none⟩) (HO2.out.blk_ne HB2.out (by decide)) _⟩
        go_roundw
        case rel =>
          refine ⟨k + 1, _, acc ++ wideF x j, by omega, by go_num, hwr2, HI.out.2.1.trans hgp, HI.out.2.2.1.growP hgp, ?_, by simp; omega⟩
          rw [HI.out.2.2.2.1, hdr.out, wInts_cons, if_neg HZ.out]
          unfold putF
          rw [HJ.out]
          rfl
        case measure => simp [intOf]; omega
    · obtain rfl : k = m := by omega
      go_wp2
      go_end0
      refine ⟨rfl, v', ?_, HI.out.2.1⟩
      rw [HI.out.2.2.2.1, List.drop_of_length_le (by rw [HM.out]; exact Nat.le_refl _)]
      exact HI.out.1

theorem wInts_len (ns : List Int) : ∀ l : List UInt8, (wInts l ns).1.length ≤ l.length + 8 * ns.length := by
  induction ns with
  | nil => intro l; simp [wInts]
  | cons n r ih =>
    intro l
    rw [wInts_cons]
    split
    · simp
    · have := ih (l ++ putF n)
      have h8 := putF_le n
      simp at this ⊢
      omega

theorem wBytes_ended (b : Nat) (A : Option Addr) (m c : Nat) (v : Value) (err : Int) (w : World) (hb : Blk w b 71 #[v, .int .i64 err]) (he : err ≠ 0) :
    Calls Try.prog 39 #[.pointer (some ⟨b, 0, none⟩), .slice A m c] w fun e w' => e = .returned (.tuple #[]) ∧ w = w' := by
  have c1 : w.cell? ⟨b, 1, none⟩ = some (.int .i64 err) := hb.cell 1
  have he2 : (err == 0) = false := by simpa using he
  clear hb he
  go_enter Try.func39, Try.ntmps39
  go_wp2
  go_returns
  exact ⟨rfl, rfl⟩

set_option maxHeartbeats 1000000 in
theorem wBytes_ok (b base : Nat) (A : Option Addr) (m c : Nat) (v : Value) (l r : List UInt8) (w : World) (hw : Wr w b base v l 0) (hr : Rd u8v w w.heap.size A r) (hm : r.length = m)
    (hsz : l.length + m ≤ 140737488355328) (hbase : base ≤ w.heap.size) :
    Calls Try.prog 39 #[.pointer (some ⟨b, 0, none⟩), .slice A m c] w fun e w' => e = .returned (.tuple #[]) ∧ ∃ v', Wr w' b base v' (l ++ r) 0 ∧ GrowP w w' b v v' := by
  obtain ⟨A', c', rfl, hc1, hc2, -⟩ := hw.2.shape
  have c0 : w.cell? ⟨b, 0, none⟩ = some (.slice A' l.length c') := hw.1.cell 0
  have c1 : w.cell? ⟨b, 1, none⟩ = some (.int .i64 0) := hw.1.cell 1
  have HW := Lib.hid hw
  have HR := Lib.hid hr
  have HM := Lib.hid hm
  clear hw hr hm
  go_enter Try.func39, Try.ntmps39
  go_wp2_with (at_builtin; refine wpList_appL _ rfl (.tmp 17) (.tmp 18) _ rfl 5 (.int .u8 0) 1 rowB u8v u8v_one base _ l rfl HW.out.2 w.heap.size _ m c r rfl HR.out HM.out (l ++ r) (l.length + m) rfl (by simp; exact HM.out) (by omega) (by omega) hbase ?_; intro A2 c2 w2 hown2 hgr2 hc3 hA2; have HB2 : Hid (Blk w2 b 71 #[.slice A' l.length c', .int .i64 0]) := HW.out.1.grown hgr2.by_ HW.out.ne_; have c02 := HB2.out.cell 0; have f02 := HB2.out.free 0; have HO2 := Lib.hid hown2; have HG2 := Lib.hid hgr2; clear hown2 hgr2 hA2)
  go_end0
  exact ⟨rfl, _, ⟨HB2.out.set_ 0 _, HO2.out.setCell (p := ⟨b, 0, none⟩) (HO2.out.blk_ne HB2.out (by decide)) _⟩, (GrowP.of HG2.out b).set_ 0 _⟩

theorem wDone_ended (b : Nat) (v : Value) (err : Int) (w : World) (hb : Blk w b 71 #[v, .int .i64 err]) (he : err ≠ 0) :
    Calls Try.prog 40 #[.pointer (some ⟨b, 0, none⟩)] w fun e w' => e = .returned (.tuple #[.slice none 0 0, .int .i64 err]) ∧ ∃ n, w' = w.drewN n := by
  have c1 : w.cell? ⟨b, 1, none⟩ = some (.int .i64 err) := hb.cell 1
  have he2 : (err == 0) = false := by simpa using he
  clear hb he
  go_enter Try.func40, Try.ntmps40
  go_wp2
  go_quiet (fail)
  go_wp2
  go_ret2
  exact ⟨rfl, _, rfl⟩

theorem wDone_ok (b base : Nat) (v : Value) (l : List UInt8) (w : World) (hw : Wr w b base v l 0) (hsz : l.length ≤ 140737488355328) :
    Calls Try.prog 40 #[.pointer (some ⟨b, 0, none⟩)] w fun e w' => ∃ A' N c', e = .returned (.tuple #[.slice A' N c', .int .i64 0]) ∧ Own u8v 5 w' w.heap.size (.slice A' N c') l ∧ Below w.heap.size w w' := by
  obtain ⟨A', c', rfl, hc1, hc2, -⟩ := hw.2.shape
  have c0 : w.cell? ⟨b, 0, none⟩ = some (.slice A' l.length c') := hw.1.cell 0
  have c1 : w.cell? ⟨b, 1, none⟩ = some (.int .i64 0) := hw.1.cell 1
  have HW := Lib.hid hw
  clear hw
  go_enter Try.func40, Try.ntmps40
  go_wp2_with (at_builtin; refine wpList_appL _ rfl (.const (.slice none 0 0)) (.tmp 18) _ rfl 5 (.int .u8 0) 1 rowB u8v u8v_one w.heap.size _ [] rfl (Own.none_ u8v 5 _ _) w.heap.size _ l.length c' l rfl HW.out.2.rd rfl l l.length rfl rfl hsz (by omega) (Nat.le_refl _) ?_; intro A2 c2 w2 hown2 hgr2 hc3 hA2)
  go_ret2
  exact ⟨A2, l.length, c2, rfl, hown2, hgr2.below (Below.refl _ _) ownBlock_nil (Nat.le_refl _)⟩

theorem wLong_ended (b : Nat) (A : Option Addr) (m c : Nat) (v : Value) (err : Int) (w : World) (hb : Blk w b 71 #[v, .int .i64 err]) (he : err ≠ 0) (hm : m ≤ 9223372036854775807) :
    Calls Try.prog 38 #[.pointer (some ⟨b, 0, none⟩), .slice A m c] w fun e w' => e = .returned (.tuple #[]) ∧ Below w.heap.size w w' := by
  have HB := Lib.hid hb
  have HE := Lib.hid he
  clear hb he
  go_enter Try.func38, Try.ntmps38
  go_wp2_with (first | (go_at_call 37; refine (wInt_ended b _ _ _ v err _ (HB.out.alloc _) HE.out).mono ?_; rintro e w' ⟨rfl, rfl⟩) | (go_at_call 39; refine (wBytes_ended b _ _ _ v err _ (HB.out.alloc _) HE.out).mono ?_; rintro e w' ⟨rfl, rfl⟩))
  go_end0
  exact ⟨rfl, (Below.refl _ _).alloc (Nat.le_refl _) _⟩

set_option maxHeartbeats 1000000 in
theorem wLong_ok (b base : Nat) (A : Option Addr) (m c : Nat) (v : Value) (l r : List UInt8) (w : World) (hw : Wr w b base v l 0) (hr : RdA u8v w A r b v) (hm : r.length = m)
    (hsz : l.length + m ≤ 35184372088832) (hbase : base ≤ w.heap.size) :
    Calls Try.prog 38 #[.pointer (some ⟨b, 0, none⟩), .slice A m c] w fun e w' => e = .returned (.tuple #[]) ∧ ∃ v', Wr w' b base v' (l ++ putF m ++ r) 0 ∧ GrowP w w' b v v' := by
  have hlm : lenF (m : Int) ≠ 0 := by have := lenF_spec (m : Int); omega
  have hw1 : wInts l [(m : Int)] = (l ++ putF m, 0) := by rw [wInts_cons, if_neg hlm]; rfl
  have HW := Lib.hid hw
  have HR := Lib.hid hr
  have HM := Lib.hid hm
  have HI := Lib.hid hw1
  have hp8 := putF_le (m : Int)
  have HP := Lib.hid hp8
  clear hw hr hm hw1 hlm hp8
  go_enter Try.func38, Try.ntmps38
  go_wp2_with fail
  have hwa : Wr (w.alloc (.cells #[.int .u64 m] 25)) b base v l 0 := ⟨HW.out.1.alloc _, HW.out.2.alloc _⟩
  have hra : RdA u64v (w.alloc (.cells #[.int .u64 m] 25)) (some ⟨w.heap.size, 0, none⟩) [(m : Int)] b v := by
    refine ⟨(Rd.one u64v w (m : Int) _).more (by simp), fun _ a ha => ?_⟩
    injection ha with ha
    subst ha
    exact ⟨fun e => by have := HW.out.1.lt; simp at e; omega, fun hv => by have := HW.out.2.bound _ hv; simp at this⟩
  refine (wInt_ok b base _ 1 _ v l [(m : Int)] _ hwa hra rfl (by simp) (by omega) (by simp; omega)).mono ?_
  rintro e w2 ⟨rfl, v2, hw2, hg2⟩
  rw [HI.out] at hw2
  have hgp : GrowP w w2 b v v2 := ((GrowP.refl w b v).alloc _).trans hg2
  have hr2 := HR.out.growP hgp
  have HW2 : Hid (Wr w2 b base v2 (l ++ putF m) 0) := hw2
  have HG2 := Lib.hid hgp
  have HR2 := Lib.hid hr2
  clear hwa hra hw2 hg2 hgp hr2
  go_wp2_with (go_at_call 39; refine (wBytes_ok b base A m c v2 (l ++ putF m) r _ HW2.out HR2.out.1 HM.out (by have := HP.out; simp; omega) (Nat.le_trans hbase HG2.out.size)).mono ?_; rintro e w3 ⟨rfl, v3, hw3, hg3⟩)
  go_end0
  exact ⟨rfl, v3, hw3, HG2.out.trans hg3⟩

/-- Int, whatever came before. -/
theorem wInt_any (b base : Nat) (A : Option Addr) (m c : Nat) (v : Value) (l : List UInt8) (ns : List Int) (err : Int) (w : World) (hw : Wr w b base v l err) (hr : RdA u64v w A ns b v) (hm : ns.length = m) (hns : ∀ n ∈ ns, 0 ≤ n)
    (hsz : l.length + 8 * m ≤ 70368744177664) (hbase : base ≤ w.heap.size) :
    Calls Try.prog 37 #[.pointer (some ⟨b, 0, none⟩), .slice A m c] w fun e w' => e = .returned (.tuple #[]) ∧ ∃ v' l' err', Wr w' b base v' l' err' ∧ GrowP w w' b v v' ∧
      (err ≠ 0 → l' = l ∧ err' = err) ∧ (err = 0 → (l', err') = wInts l ns) := by
  by_cases he : err = 0
  · subst he
    refine (wInt_ok b base A m c v l ns w hw hr hm hns hsz hbase).mono ?_
    rintro e w' ⟨rfl, v', h1, h2⟩
    exact ⟨rfl, v', _, _, h1, h2, fun h => absurd rfl h, fun _ => rfl⟩
  · refine (wInt_ended b A m c v err w hw.1 he).mono ?_
    rintro e w' ⟨rfl, rfl⟩
    exact ⟨rfl, v, l, err, hw, GrowP.refl _ _ _, fun _ => ⟨rfl, rfl⟩, fun h => absurd h he⟩
theorem wInts_err (ns : List Int) : ∀ l : List UInt8, (wInts l ns).2 = 0 ∨ (wInts l ns).2 = 2 := by
  induction ns with
  | nil => intro l; exact .inl rfl
  | cons n r ih =>
    intro l
    rw [wInts_cons]
    split
    · exact .inr rfl
    · exact ih _

/-- A slice of 64-bit numbers that came in. -/
theorem IsRow.s64 {w : World} {a : Option Addr} {len cap : Nat} {zs : List Int} (h : IsRow .u64 w a len cap zs) :
    ∃ l : List Int, l.length = len ∧ Rd u64v w w.heap.size a l ∧ ∀ n ∈ l, 0 ≤ n ∧ n ≤ 18446744073709551615 := by
  obtain ⟨hs, hl, _, hz, hw, _⟩ := h.sl
  have hlen : (zs.take len).length = len := by simp; omega
  refine ⟨zs.take len, hlen, ?_, fun n hn => u64_wf (hw n (List.mem_of_mem_take hn))⟩
  unfold Rd
  rw [hlen]
  exact hs
end Go.Proofs.Ytmpnhiehkiiepaa
