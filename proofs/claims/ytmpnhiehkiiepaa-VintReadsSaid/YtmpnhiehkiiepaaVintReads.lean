/-
  binnaclelaw01.VintReads returns true. No condition.
-/
import Derived.Test.YtmpnhiehkiiepaaVrp
import Derived.Test.YtmpnhiehkiiepaaVintTakes
import Derived.Deep.CutBlock
import Derived.Deep.DeepCutAuto
import Derived.Deep.RegionHeld3
import Derived.Laws.EntriesVeiled
import Derived.Deep.QuietTactic
import Derived.BigQuiet
namespace Go.Proofs.Ytmpnhiehkiiepaa
open Go.RowKit

/-- The two readers in the law's memory. -/
structure VS (w wr : World) (b h : Nat) (s1 s2 : RS) : Prop where
  rd : RdrS wr b s1
  lw : LW w.heap.size wr h (h + 1) (h + 1 + 1) (h + 1 + 1 + 1) s2
  bl : Below w.heap.size w wr
  hb : w.heap.size ≤ b
  lt : b < h
theorem VS.r {w wr w' : World} {b h : Nat} {s1 s2 s3 : RS} (v : VS w wr b h s1 s2) (hr : RdrS w' b s3) (he : Ext [b] wr w') : VS w w' b h s3 s2 :=
  ⟨hr, v.lw.ext he (by simpa using v.hb) (by have := v.lt; simp; omega) (by have := v.lt; simp; omega) (by have := v.lt; simp; omega) (by have := v.lt; simp; omega), he.below v.bl (by simpa using v.hb) v.bl.size, v.hb, v.lt⟩
theorem VS.c {w wr w' : World} {b h : Nat} {s1 s2 s3 : RS} (v : VS w wr b h s1 s2) (hr : LW w.heap.size w' h (h + 1) (h + 1 + 1) (h + 1 + 1 + 1) s3) (he : Ext [h, h + 1] wr w') : VS w w' b h s1 s3 := by
  refine ⟨?_, hr, he.below v.bl (by have := v.hb; have := v.lt; simp; omega) v.bl.size, v.hb, v.lt⟩
  obtain ⟨hz, A, n, c, hd⟩ := v.rd
  have hlt := v.lt
  obtain ⟨A2, n2, c2, hb2, -⟩ := v.lw.l
  refine ⟨hz, A, n, c, hd.ext he (by simp; omega) (fun hn a ha hc => ?_)⟩
  obtain ⟨g, off, hA, hg, hcell⟩ := hd.rd.2 hn
  rw [hA] at ha
  injection ha with ha
  subst ha
  have hx := hcell 0 _ (by simp [hn]; rfl)
  obtain ⟨y, _, hy⟩ := List.mem_map.1 (List.mem_of_getElem? (l := s1.l.map u8v) (i := 0) (by simp [hn]; rfl))
  rw [← hy, Nat.add_zero] at hx
  have hge : g = h ∨ g = h + 1 := by simpa using hc
  rcases hge with rfl | rfl
  · rw [hb2.cell off] at hx
    have : off = 0 := by
      have := (Array.getElem?_eq_some_iff.1 hx).1
      simp at this; omega
    subst this
    simp [u8v] at hx
  · rw [v.lw.e.cell off] at hx
    have : off = 0 := by
      have := (Array.getElem?_eq_some_iff.1 hx).1
      simp at this; omega
    subst this
    simp [u8v] at hx

theorem VS.drew {w wr : World} {b h : Nat} {s1 s2 : RS} (v : VS w wr b h s1 s2) : VS w wr.drew b h s1 s2 :=
  ⟨v.rd.quiet ((Ext.refl [] wr).drew), v.lw.ext (m := []) ((Ext.refl [] wr).drew) (by simp) (by simp) (by simp) (by simp) (by simp), v.bl.drew, v.hb, v.lt⟩
theorem VS.quiet {w wr w' : World} {b h : Nat} {s1 s2 : RS} (v : VS w wr b h s1 s2) (k : Ext [] wr w') : VS w w' b h s1 s2 :=
  ⟨v.rd.quiet k, v.lw.ext k (by simp) (by simp) (by simp) (by simp) (by simp), k.below v.bl (by simp) v.bl.size, v.hb, v.lt⟩
theorem VS.drewN {w wr : World} {b h : Nat} {s1 s2 : RS} (v : VS w wr b h s1 s2) (n : Nat) : VS w (wr.drewN n) b h s1 s2 := v.quiet ((Ext.refl _ _).drewN n)
theorem VS.ct {w wr : World} {b h : Nat} {s1 s2 : RS} (v : VS w wr b h s1 s2) : wr.cell? ⟨h + 1 + 1 + 1, 0, none⟩ = some (.func (.func 49) #[] #[.pointer (some ⟨h, 0, none⟩), .pointer (some ⟨h + 1, 0, none⟩), .pointer (some ⟨h + 1 + 1, 0, none⟩)]) := v.lw.t.cell 0
theorem VS.cf {w wr : World} {b h : Nat} {s1 s2 : RS} (v : VS w wr b h s1 s2) : wr.cell? ⟨h + 1 + 1, 0, none⟩ = some (.func (.func 48) #[] #[.pointer (some ⟨h + 1, 0, none⟩), .pointer (some ⟨h, 0, none⟩)]) := v.lw.f.cell 0
theorem VS.ce {w wr : World} {b h : Nat} {s1 s2 : RS} (v : VS w wr b h s1 s2) : wr.cell? ⟨h + 1, 0, none⟩ = some (.int .i64 s2.err) := v.lw.e.cell 0
theorem VS.cl {w wr : World} {b h : Nat} {s1 s2 : RS} (v : VS w wr b h s1 s2) : ∃ A n c, wr.cell? ⟨h, 0, none⟩ = some (.slice A n c) ∧ s2.l.length = n ∧ n ≤ c ∧ c ≤ 9223372036854775807 := by
  obtain ⟨A, n, c, h1, _, h2⟩ := v.lw.l
  exact ⟨A, n, c, h1.cell 0, h2⟩
theorem VS.out {w wr w3 : World} {b h : Nat} {s1 s2 : RS} {A : Option Addr} {n : Nat} {l : List UInt8} (v : VS w wr b h s1 s2) (h1 : Rd u8v w3 w3.heap.size A l) (h2 : l.length = n) (h5 : Fresh wr.heap.size A n) : RdX u8v w3 A l [h, h + 1] := by
  subst h2
  refine h5.rdx h1 ?_
  obtain ⟨_, _, _, h3, _⟩ := v.lw.l
  have := h3.lt
  have := v.lw.e.lt
  simp; omega
theorem RS.count_bd (s : RS) (k : Int) : -9223372036854775808 ≤ (s.count k).1 ∧ (s.count k).1 ≤ 9223372036854775807 := by
  have := s.num_bd
  rw [RS.count_eq]
  (repeat' split) <;> dsimp only <;> omega
theorem RS.byte_nil {s : RS} (h : (s.bytes 1).1 = []) : s.byte = 0 := by unfold RS.byte; rw [h]; rfl
theorem RS.byte_one {s : RS} {x : UInt8} {r : List UInt8} (h : (s.bytes 1).1 = x :: r) : s.byte = x.toNat ∧ r = [] := by
  refine ⟨by unfold RS.byte; rw [h]; rfl, ?_⟩
  have : (s.bytes 1).1.length ≤ 1 := by unfold RS.bytes; split; simp; split; simp; simp; omega
  rw [h] at this
  simpa using this

theorem VS.to {w wr : World} {b h : Nat} {s1 s2 s3 : RS} (v : VS w wr b h s1 s2) (e : s3 = s2) : VS w wr b h s1 s3 := e ▸ v
theorem VS.start {w w2 : World} {b : Nat} {A : Option Addr} {n c : Nat} {l : List UInt8} (hrd : RdrS w2 b ⟨l, 0⟩) (hr : Rd u8v w w.heap.size A l) (hl : l.length = n) (hc : n ≤ c) (hm : c ≤ 9223372036854775807) (hb : Below w.heap.size w w2) (hbb : w.heap.size ≤ b) :
    VS w ((((w2.alloc (.cells #[.slice A n c] 22)).alloc (.cells #[.int .i64 0] 26)).alloc (.cells #[failV (w2.heap.size + 1) w2.heap.size] 90)).alloc (.cells #[takeVal w2.heap.size (w2.heap.size + 1) (w2.heap.size + 1 + 1)] 91)) b w2.heap.size ⟨l, 0⟩ ⟨l, 0⟩ := by
  have hs := hb.size
  refine ⟨(((hrd.alloc _).alloc _).alloc _).alloc _, ⟨⟨A, n, c, (((Blk.new _ _ _).alloc _).alloc _).alloc _, ((((hr.below hb (Nat.le_refl _)).alloc hs _).alloc (by simp; omega) _).alloc (by simp; omega) _).alloc (by simp; omega) _, hl, hc, hm⟩, ((Blk.new_ _ _ _ _ (by simp)).alloc _).alloc _, (Blk.new_ _ _ _ _ (by simp)).alloc _, Blk.new_ _ _ _ _ (by simp), hs, by omega⟩, (((hb.alloc hs _).alloc (by simp; omega) _).alloc (by simp; omega) _).alloc (by simp; omega) _, hbb, hrd.lt⟩

set_option maxRecDepth 100000 in
set_option maxHeartbeats 8000000 in
theorem walk_reads (A : Option Addr) (n c : Nat) (B : Option Addr) (m d : Nat) (D : Option Addr) (p q : Nat) (l acts : List UInt8) (ns : List Int) (w : World) (hr : Rd u8v w w.heap.size A l) (hn : l.length = n) (hs : Rd u8v w w.heap.size B acts) (hm : acts.length = m) (ht : Rd (Value.int .i64) w w.heap.size D ns) (hp : ns.length = p) (hns : ∀ x ∈ ns, -9223372036854775808 ≤ x ∧ x ≤ 9223372036854775807) (hm2 : m ≤ 9223372036854775807) (hp2 : p ≤ 9223372036854775807) (hc : n ≤ c) (hc2 : c ≤ 9223372036854775807) :
    Calls Try.prog 13 #[.slice A n c, .slice B m d, .slice D p q] w fun e w' => e = .returned (.bool true) ∧ Below w.heap.size w w' := by
  have HR := Lib.hid hr
  have HN := Lib.hid hn
  have HS := Lib.hid hs
  have HM := Lib.hid hm
  have HT := Lib.hid ht
  have HP := Lib.hid hp
  have HNS := Lib.hid hns
  clear hr hn hs hm ht hp hns
  by_cases hbig : 200 < n
  · have hbi : (200 : Int) < (n : Int) := by omega
    go_enter Try.func13, Try.ntmps13
    go_wp2_with (go_at_call 25; refine (awake01 _).mono ?_; rintro e w1 ⟨rfl, hb1⟩)
    exact bodyPost_ret (results_tmp rfl _ _ _) rfl ⟨rfl, hb1⟩
  · have hbi : ¬ (200 : Int) < (n : Int) := by omega
    have hmf : ∀ (fn : Fn) (first cap : Array Value) (w : World), (Instr.makeFunc fn first cap).run Try.prog w = .ok (.func fn first cap) w := fun _ _ _ _ => rfl
    go_enter Try.func13, Try.ntmps13
    go_upto_block 0 with (first
      | (go_at_call 25; refine (awake01 _).mono ?_; rintro e w1 ⟨rfl, hb1⟩; have HB1 := Lib.hid hb1; clear hb1)
      | (go_at_call 47; refine (read_any A n c l w.heap.size _ (HR.out.below HB1.out (Nat.le_refl _)) HN.out (by omega) HB1.out.size).mono ?_; rintro e w2 ⟨b, rfl, hbl, hrd, he2⟩; have HV := Lib.hid (VS.start hrd HR.out HN.out hc hc2 (he2.below HB1.out (by simp) HB1.out.size) (Nat.le_trans HB1.out.size hbl)); clear hbl hrd he2))
    go_cut [] from 14 to 147 (fun wc => ∃ s : RS, Hid (VS w wc b w2.heap.size s s ∧ s.wf))
    case first =>
      clear hmf
      go_wp2_with fail
      go_loopw [35] (fun i wr => ∃ (k : Nat) (s : RS), k ≤ m ∧ i = .int .i64 k ∧ Hid (VS w wr b w2.heap.size s s ∧ s.wf)) (fun i _ => m - (intOf i).toNat)
      case atStart => exact ⟨0, ⟨l, 0⟩, by omega, rfl, HV.out, fun h => absurd rfl h⟩
      case round =>
        clear HV
        obtain ⟨k, s, hk, rfl, HV⟩ := hrel
        by_cases hlt : k < m
        · have hkl : k < acts.length := by have := HM.out; omega
          by_cases h60 : 60 ≤ k
          · obtain ⟨g, off, hA, -, hcell⟩ := (HS.out.below HV.out.1.bl (Nat.le_refl _)).at_ hkl
            subst hA
            unfold u8v at hcell
            have h60i : (60 : Int) ≤ (k : Int) := by omega
            go_wp2_with fail
            go_meet
            case rel => exact ⟨s, HV⟩
          · obtain ⟨g, off, hA, -, hcell⟩ := (HS.out.below HV.out.1.bl (Nat.le_refl _)).at_ hkl
            subst hA
            obtain ⟨a, ha⟩ : ∃ a, a = acts[k] := ⟨_, rfl⟩
            rw [← ha] at hcell
            unfold u8v at hcell
            have ha8 := a.toNat_lt
            have h60i : ¬ (60 : Int) ≤ (k : Int) := by omega
            clear ha
            go_upto_if 45 with fail
            go_cut [16] from 45 to 49 (fun s16 wc => ∃ v : Int, s16 = .int .i64 v ∧ (-9223372036854775808 ≤ v ∧ v ≤ 9223372036854775807) ∧ wr = wc)
            case first =>
              by_cases hkp : k < p
              · have hkn : k < ns.length := by have := HP.out; omega
                obtain ⟨g2, off2, hD, -, hcell2⟩ := (HT.out.below HV.out.1.bl (Nat.le_refl _)).at_ hkn
                subst hD
                have hv := HNS.out _ (List.getElem_mem hkn)
                obtain ⟨v, hvv⟩ : ∃ v, v = ns[k] := ⟨_, rfl⟩
                rw [← hvv] at hcell2 hv
                clear hvv
                go_wp2_with fail
                go_meet
                case rel => exact ⟨v, rfl, hv, rfl⟩
              · go_wp2_with fail
                go_meet
                case rel => exact ⟨3, rfl, by omega, rfl⟩
            case rest =>
              obtain ⟨v, rfl, hv, rfl⟩ := hcut
              go_upto_block 2 with fail
              go_cut [51] (fun _ wc => ∃ s' : RS, Hid (VS w wc b w2.heap.size s' s' ∧ s'.wf))
              case first =>
                rcases (show (a.toNat : Int) % 8 = 0 ∨ (a.toNat : Int) % 8 = 1 ∨ (a.toNat : Int) % 8 = 2 ∨ (a.toNat : Int) % 8 = 3 ∨ (a.toNat : Int) % 8 = 4 ∨ (a.toNat : Int) % 8 = 5 ∨ (a.toNat : Int) % 8 = 6 ∨ (a.toNat : Int) % 8 = 7 from by omega) with h8 | h8 | h8 | h8 | h8 | h8 | h8 | h8
                iterate 2
                  · go_upto_region 24 with fail
                    have HVD := Lib.hid HV.out.1.drew
                    go_region_held3 (fun w' => w'.cell? ⟨w2.heap.size + 1 + 1 + 1, 0, none⟩ = some (.func (.func 49) #[] #[.pointer (some ⟨w2.heap.size, 0, none⟩), .pointer (some ⟨w2.heap.size + 1, 0, none⟩), .pointer (some ⟨w2.heap.size + 1 + 1, 0, none⟩)])) (first | exact HV4.out.lw.t.cell 0 | exact HV3.out.lw.t.cell 0 | exact HVD.out.lw.t.cell 0) (first | (go_at_call 49; refine (lw_take HV3.out.lw).mono ?_; rintro e w4 ⟨rfl, h1, h2⟩; have HV4 := Lib.hid (HV3.out.c h1 h2); have ht4 := HV4.out; clear ht4; clear h1 h2) | (go_at_call 52; refine (rint_any b s _ HVD.out.rd).mono ?_; rintro e w3 ⟨rfl, h1, h2⟩; have HV3 := Lib.hid (HVD.out.r h1 h2); clear h1 h2))
                    all_goals (go_wp2_with fail; go_meet; exact ⟨s.next, HV4.out, RS.wf_next HV.out.2⟩)
                · obtain ⟨A3, n3, c3, cl3, hl3, hn3, hm3⟩ := HV.out.1.cl
                  have HL3 := Lib.hid hl3
                  have ct3 := HV.out.1.ct
                  clear hl3
                  go_upto_region 29 with (go_at_call 49; refine (lw_take HV.out.1.lw).mono ?_; rintro e w4 ⟨rfl, h1, h2⟩; have HV4 := Lib.hid (HV.out.1.c h1 h2); obtain ⟨A4, n4, c4, cl4, hl4, hn4, hm4⟩ := HV4.out.cl; have HL4 := Lib.hid hl4; have ce4 := HV4.out.ce; clear hl4; clear h1 h2)
                  have HQ := Lib.hid (fun a => HV4.out.drewN a)
                  have cf4 := HV4.out.cf
                  by_cases he : s.next.err = 0
                  · obtain ⟨hsz, hle⟩ := RS.least_ok he
                    rw [HL3.out, HL4.out] at hsz
                    have he1 : (s.next.err == 0) = true := by simpa using he
                    by_cases hq : (s.size : Int) = lenF s.num
                    · rw [if_pos hq] at hle
                      have HLE := Lib.hid hle
                      have hq1 : ((n3 : Int) - (n4 : Int) == lenF s.num) = true := by rw [hsz]; simpa using hq
                      clear hsz hle he hq
                      go_quiet ((go_at_call 27; exact Calls.quiet_of_same ((refLen_any s.num _ (RS.num_bd s).1).mono (fun _ _ h => ⟨h.1, h.2.symm⟩))))
                      go_wp2_with (go_at_call 53; refine (rleast_any b s _ (HQ.out _).rd).mono ?_; rintro e w6 ⟨rfl, h1, h2⟩; have HV6 := Lib.hid ((HQ.out _).r h1 h2); rw [HLE.out]; clear h1 h2)
                      go_meet
                      case rel => exact ⟨s.least.2, by rw [HLE.out]; rw [HLE.out] at HV6; exact HV6, RS.wf_least HV.out.2⟩
                    · rw [if_neg hq] at hle
                      have HLE := Lib.hid hle
                      have hq1 : ((n3 : Int) - (n4 : Int) == lenF s.num) = false := by rw [hsz]; simpa using hq
                      clear hsz hle he hq
                      go_quiet ((go_at_call 27; exact Calls.quiet_of_same ((refLen_any s.num _ (RS.num_bd s).1).mono (fun _ _ h => ⟨h.1, h.2.symm⟩))))
                      go_wp2_with (first | (go_at_call 53; refine (rleast_any b s _ HV5.out.rd).mono ?_; rintro e w6 ⟨rfl, h1, h2⟩; have HV6 := Lib.hid (HV5.out.r h1 h2); rw [HLE.out]; clear h1 h2) | (go_at_call 48; refine (lw_fail 4 (HQ.out _).lw (by decide)).mono ?_; rintro e w5 ⟨rfl, h1, h2⟩; have HV5 := Lib.hid (VS.c (HQ.out _) h1 h2); clear h1 h2))
                      go_meet
                      case rel => exact ⟨s.least.2, by rw [HLE.out]; rw [HLE.out] at HV6; exact HV6, RS.wf_least HV.out.2⟩
                  · have he1 : (s.next.err == 0) = false := by simpa using he
                    have HLE := Lib.hid (RS.least_not he)
                    clear he
                    go_quiet (fail)
                    go_wp2_with (go_at_call 53; refine (rleast_any b s _ (HQ.out _).rd).mono ?_; rintro e w6 ⟨rfl, h1, h2⟩; have HV6 := Lib.hid ((HQ.out _).r h1 h2); rw [HLE.out]; clear h1 h2)
                    go_meet
                    case rel => exact ⟨s.least.2, by rw [HLE.out]; rw [HLE.out] at HV6; exact HV6, RS.wf_least HV.out.2⟩
                · go_wp2_with (first | (go_at_call 50; refine (lw_count v HV3.out.lw hv).mono ?_; rintro e w4 ⟨rfl, h1, h2⟩; have HV4 := Lib.hid (HV3.out.c h1 h2); clear h1 h2) | (go_at_call 54; refine (rcount_any b v s _ HV.out.1.rd hv).mono ?_; rintro e w3 ⟨rfl, h1, h2⟩; have HV3 := Lib.hid (HV.out.1.r h1 h2); clear h1 h2))
                  go_meet
                  case rel => exact ⟨(s.count v).2, HV4.out, RS.wf_count HV.out.2 v⟩
                · go_upto_region 38 with fail
                  have HVD := Lib.hid HV.out.1.drew
                  go_region_with (first | (go_at_call 51; refine (lw_bytes v HV3.out.lw hv).mono ?_; rintro e w4 ⟨B4, nB4, cB4, rfl, h1, h2, h3, h4⟩; have HV4 := Lib.hid (HV3.out.c h3 h4); have hstr2 := str_of h1 h2 cB4; have hstr1 := str_of (HX.out.ext h4).1 HL.out cB3; clear h1 h2 h3 h4) | (go_at_call 55; refine (rbytes_any b v s _ HVD.out.rd).mono ?_; rintro e w3 ⟨B3, nB3, cB3, rfl, h1, h2, h3, h4, h5, h6, h7⟩; have HV3 := Lib.hid (HVD.out.r h6 h7); have HX := Lib.hid (HVD.out.out h1 h2 h5); have HL := Lib.hid h2; have hstr := str_of h1 h2 cB3; clear h1 h2 h3 h4 h5 h6 h7))
                  all_goals (go_wp2_with fail; go_meet; exact ⟨(s.bytes v).2, HV4.out, RS.wf_bytes HV.out.2 v⟩)
                · have HVO := Lib.hid HV.out.1
                  cases hout : (s.bytes 1).1 with
                  | nil =>
                    have HBY := Lib.hid (RS.byte_nil hout)
                    have HOUT := Lib.hid hout
                    clear hout
                    go_wp2_with (first | (go_at_call 56; refine (rbyte_any b s _ HV3.out.rd).mono ?_; rintro e w4 ⟨rfl, h1, h2⟩; have HV4 := Lib.hid (HV3.out.r h1 h2); rw [HBY.out]; clear h1 h2) | (go_at_call 51; refine (lw_bytes 1 HVO.out.lw (by decide)).mono ?_; rintro e w3 ⟨B3, nB3, cB3, rfl, h1, h2, h3, h4⟩; have HV3 := Lib.hid (HVO.out.c h3 h4); rw [HOUT.out] at h2; obtain rfl : nB3 = 0 := h2.symm; clear h1 h2 h3 h4))
                    go_meet
                    case rel => exact ⟨(s.bytes 1).2, HV4.out, RS.wf_bytes HV.out.2 1⟩
                  | cons x r =>
                    have HBY := Lib.hid (RS.byte_one hout).1
                    obtain rfl := (RS.byte_one hout).2
                    have HOUT := Lib.hid hout
                    clear hout
                    go_wp2_with (first | (go_at_call 56; refine (rbyte_any b s _ HV3.out.rd).mono ?_; rintro e w4 ⟨rfl, h1, h2⟩; have HV4 := Lib.hid (HV3.out.r h1 h2); rw [HBY.out]; clear h1 h2) | (go_at_call 51; refine (lw_bytes 1 HVO.out.lw (by decide)).mono ?_; rintro e w3 ⟨B3, nB3, cB3, rfl, h1, h2, h3, h4⟩; have HV3 := Lib.hid (HVO.out.c h3 h4); rw [HOUT.out] at h1 h2; obtain rfl : nB3 = 1 := h2.symm; obtain ⟨g3, off3, rfl, _, hc3⟩ := h1.at_ (k := 0) (by simp); simp only [List.getElem_cons_zero, Nat.add_zero, u8v] at hc3; clear h1 h2 h3 h4))
                    go_meet
                    case rel => exact ⟨(s.bytes 1).2, HV4.out, RS.wf_bytes HV.out.2 1⟩
                · go_upto_region 48 with fail
                  have HVD := Lib.hid HV.out.1.drew
                  go_region_with (first | (go_at_call 51; refine (lw_bytes _ HV4.out.lw (RS.count_bd s v)).mono ?_; rintro e w5 ⟨B5, nB5, cB5, rfl, h1, h2, h3, h4⟩; have HV5 := Lib.hid (HV4.out.c h3 h4); have hstr2 := str_of (l := (s.long v).1) h1 h2 cB5; have hstr1 := str_of (HX4.out.ext h4).1 HL.out cB3; clear h1 h2 h3 h4) | (go_at_call 50; refine (lw_count v HV3.out.lw hv).mono ?_; rintro e w4 ⟨rfl, h1, h2⟩; have HV4 := Lib.hid (HV3.out.c h1 h2); have HX4 := Lib.hid (HX.out.ext h2); have hstr3 := str_of HX4.out.1 HL.out cB3; clear h1 h2) | (go_at_call 57; refine (rlong_any b v s _ HVD.out.rd hv).mono ?_; rintro e w3 ⟨B3, nB3, cB3, rfl, h1, h2, h3, h4, h5, h6, h7⟩; have HV3 := Lib.hid (HVD.out.r h6 h7); have HX := Lib.hid (HVD.out.out h1 h2 h5); have HL := Lib.hid h2; have hstr := str_of h1 h2 cB3; clear h1 h2 h3 h4 h5 h6 h7))
                  all_goals (go_wp2_with fail; go_meet; exact ⟨(s.long v).2, HV5.out, RS.wf_long HV.out.2 v⟩)
                · have HVO := Lib.hid HV.out.1
                  have cf4 := HV.out.1.cf
                  by_cases h255 : (a.toNat : Int) = 255
                  · have hb5 : ((a.toNat : Int) == 255) = true := by simpa using h255
                    clear h255
                    go_wp2_with (first | (go_at_call 48; refine (lw_fail 5 HV3.out.lw (by decide)).mono ?_; rintro e w4 ⟨rfl, h1, h2⟩; have HV4 := Lib.hid (VS.c HV3.out h1 h2); clear h1 h2) | (go_at_call 58; refine (rfail_any b 5 s _ HVO.out.rd).mono ?_; rintro e w3 ⟨rfl, h1, h2⟩; have HV3 := Lib.hid (HVO.out.r h1 h2); have cf3 := HV3.out.cf; clear h1 h2))
                    go_meet
                    case rel => exact ⟨s.fail 5, HV4.out, RS.wf_fail HV.out.2 5⟩
                  · have hb5 : ((a.toNat : Int) == 255) = false := by simpa using h255
                    clear h255
                    go_wp2_with fail
                    go_meet
                    case rel => exact ⟨s, HV⟩
              case rest =>
                obtain ⟨s', HV'⟩ := hcut
                obtain ⟨A3, n3, c3, cl3, hl3, hn3, hm3⟩ := HV'.out.1.drew.cl
                have HL3 := Lib.hid hl3
                have ce3 := HV'.out.1.drew.ce
                have HVD := Lib.hid HV'.out.1.drew
                clear hl3 HV
                go_upto_region 50 with fail
                go_region_held3 (fun w' => w'.cell? ⟨w2.heap.size + 1, 0, none⟩ = some (.int .i64 s'.err) ∧ w'.cell? ⟨w2.heap.size, 0, none⟩ = some (.slice A3 n3 c3)) (exact ⟨ce3, cl3⟩) (first
                  | (go_at_call 60; refine (rleft_any b s' _ HVD.out.rd).mono ?_; rintro e w6 ⟨rfl, rfl⟩; rw [HL3.out])
                  | (go_at_call 59; refine (rerr_any b s' _ HVD.out.rd).mono ?_; rintro e w6 ⟨rfl, rfl⟩))
                all_goals go_wp2_with fail
                all_goals go_roundw
                case rel => exact ⟨k + 1, s', by omega, by go_num, HVD.out, HV'.out.2⟩
                case measure => simp [intOf]; omega
        · go_wp2_with fail
          go_meet
          case rel => exact ⟨s, HV⟩
    case rest =>
      obtain ⟨s, HV2⟩ := hcut
      clear HV
      obtain ⟨hz, hend⟩ := RS.end_eq HV2.out.2
      have HZ := Lib.hid hz
      obtain ⟨A3, n3, c3, cl3, hl3, hn3, hm3⟩ := HV2.out.1.cl
      have ce3 := HV2.out.1.ce
      have cf3 := HV2.out.1.cf
      have HVO := Lib.hid HV2.out.1
      rw [hl3] at hend
      clear hz hl3
      by_cases hc : s.err = 0 ∧ 0 < n3
      · rw [if_pos hc] at hend
        have HEND := Lib.hid hend
        have hc1 : (s.err == 0) = true := by simpa using hc.1
        have hc4 : (0 : Int) < (n3 : Int) := by omega
        clear hend hc
        go_upto_region 55 with (go_at_call 48; refine (lw_fail 24 HVO.out.lw (by decide)).mono ?_; rintro e w4 ⟨rfl, h1, h2⟩; have HV4 := Lib.hid (VS.c HVO.out h1 h2); clear h1 h2)
        have HVD := Lib.hid (HV4.out.drew.to HEND.out)
        go_region_held3 (fun w' => w'.cell? ⟨w2.heap.size + 1, 0, none⟩ = some (.int .i64 s.end_.err)) (first | exact HV6.out.ce | exact HVD.out.ce) (first
          | (go_at_call 60; refine (rleft_any b s.end_ _ HV6.out.rd).mono ?_; rintro e w7 ⟨rfl, rfl⟩; rw [HZ.out])
          | (go_at_call 61; refine (rend_any b s _ HVD.out.rd).mono ?_; rintro e w6 ⟨rfl, h1, h2⟩; have HV6 := Lib.hid (HVD.out.r h1 h2); clear h1 h2))
        all_goals go_wp2_with fail
        all_goals exact bodyPost_ret (results_tmp rfl _ _ _) rfl ⟨rfl, HV6.out.bl⟩
      · rw [if_neg hc] at hend
        have HEND := Lib.hid hend
        clear hend
        have HV4 := HVO
        by_cases hc1' : s.err = 0
        · have hc1 : (s.err == 0) = true := by simpa using hc1'
          have hc4 : ¬ (0 : Int) < (n3 : Int) := by omega
          clear hc hc1'
          go_upto_region 55 with fail
          have HVD := Lib.hid (HV4.out.drew.to HEND.out)
          go_region_held3 (fun w' => w'.cell? ⟨w2.heap.size + 1, 0, none⟩ = some (.int .i64 s.end_.err)) (first | exact HV6.out.ce | exact HVD.out.ce) (first
            | (go_at_call 60; refine (rleft_any b s.end_ _ HV6.out.rd).mono ?_; rintro e w7 ⟨rfl, rfl⟩; rw [HZ.out])
            | (go_at_call 61; refine (rend_any b s _ HVD.out.rd).mono ?_; rintro e w6 ⟨rfl, h1, h2⟩; have HV6 := Lib.hid (HVD.out.r h1 h2); clear h1 h2))
          all_goals go_wp2_with fail
          all_goals exact bodyPost_ret (results_tmp rfl _ _ _) rfl ⟨rfl, HV6.out.bl⟩
        · have hc1 : (s.err == 0) = false := by simpa using hc1'
          clear hc hc1'
          go_upto_region 55 with fail
          have HVD := Lib.hid (HV4.out.drew.to HEND.out)
          go_region_held3 (fun w' => w'.cell? ⟨w2.heap.size + 1, 0, none⟩ = some (.int .i64 s.end_.err)) (first | exact HV6.out.ce | exact HVD.out.ce) (first
            | (go_at_call 60; refine (rleft_any b s.end_ _ HV6.out.rd).mono ?_; rintro e w7 ⟨rfl, rfl⟩; rw [HZ.out])
            | (go_at_call 61; refine (rend_any b s _ HVD.out.rd).mono ?_; rintro e w6 ⟨rfl, h1, h2⟩; have HV6 := Lib.hid (HVD.out.r h1 h2); clear h1 h2))
          all_goals go_wp2_with fail
          all_goals exact bodyPost_ret (results_tmp rfl _ _ _) rfl ⟨rfl, HV6.out.bl⟩
end Go.Proofs.Ytmpnhiehkiiepaa
