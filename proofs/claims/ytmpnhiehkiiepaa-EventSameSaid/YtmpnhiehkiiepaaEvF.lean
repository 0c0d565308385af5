/-
  Contracts of event's Clone and of the law's Fit. No condition.
-/
import Derived.Test.YtmpnhiehkiiepaaEvC
import Derived.Test.YtmpnhiehkiiepaaVintA
import Derived.Test.YtmpnhiehkiiepaaStr
namespace Go.Proofs.Ytmpnhiehkiiepaa
open Go.RowKit

set_option maxHeartbeats 1000000 in
theorem clone_any (k : Nat) (t : Int) (A : Option Addr) (n c : Nat) (B : Option Addr) (m d : Nat) (ns : List Int) (bs : List UInt8) (w : World) (hr : Rd u64v w w.heap.size A ns) (hn : ns.length = n) (hs : Rd u8v w w.heap.size B bs) (hm : bs.length = m) (hn9 : n ≤ 1000000) (hm9 : m ≤ 1000000) :
    Calls Try.prog 41 #[.agg #[.int .u8 k, .int .u64 t, .slice A n c, .slice B m d]] w fun e w' => ∃ A' c' B' d', e = .returned (.agg #[.int .u8 k, .int .u64 t, .slice A' n c', .slice B' m d']) ∧
      Own u64v 25 w' w.heap.size (.slice A' n c') ns ∧ Own u8v 5 w' w.heap.size (.slice B' m d') bs ∧ (A' = none ↔ n = 0) ∧ (B' = none ↔ m = 0) ∧ Apart (.slice A' n c') (.slice B' m d') ∧ Below w.heap.size w w' := by
  have HR := Lib.hid hr
  have HN := Lib.hid hn
  have HS := Lib.hid hs
  have HM := Lib.hid hm
  clear hr hn hs hm
  go_enter Try.func41, Try.ntmps41
  go_wp2_with (first
    | (at_builtin; refine wpList_appL _ rfl (.const (.slice none 0 0)) (.tmp 4) _ rfl 25 (.int .u64 0) 8 rowL u64v u64v_one w.heap.size _ [] rfl (Own.none_ u64v 25 _ _) w.heap.size _ n c ns rfl ((HR.out.alloc (Nat.le_refl _) _).alloc (by simp) _) HN.out ns n rfl HN.out (by omega) (by omega) (by simp; omega) ?_; intro A2 c2 w2 hown2 (hgr2 : Grow _ _ (.slice none 0 0) _) hc3 (hA2 : A2 = none ↔ Value.slice none 0 0 = Value.slice none 0 0 ∧ n = 0); have hE2 := ((Blk.new w 63 #[.int .u8 k, .int .u64 t, .slice A n c, .slice B m d]).alloc _).grown hgr2.by_ (by simp [Value.ownBlock]); have e2 := hE2.cell 2; have e3 := hE2.cell 3; have fe2 := hE2.free 2; have HE2 := Lib.hid hE2; have hR2 := (Blk.new_ (w.alloc (.cells #[.int .u8 k, .int .u64 t, .slice A n c, .slice B m d] 63)) 63 #[.int .u8 0, .int .u64 0, .slice none 0 0, .slice none 0 0] (w.heap.size + 1) (by simp)).grown hgr2.by_ (by simp [Value.ownBlock]); have HR2 := Lib.hid hR2; have hS2 := ((HS.out.alloc (Nat.le_refl _) _).alloc (by simp) _).grown hgr2.by_ (by simp; omega); have HS2 := Lib.hid hS2; have HO2 := Lib.hid hown2; have HG2 := Lib.hid hgr2; have HA2 := Lib.hid hA2; clear hE2 hR2 hS2 hown2 hgr2 hA2)
    | (at_builtin; go_loud (refine wpList_appL _ rfl (.const (.slice none 0 0)) (.tmp 8) _ rfl 5 (.int .u8 0) 1 rowB u8v u8v_cell w.heap.size _ [] rfl (Own.none_ u8v 5 _ _) w.heap.size _ m d bs rfl (HS2.out.setCell (p := ⟨w.heap.size, 2, none⟩) (Nat.le_refl _) _) HM.out bs m rfl HM.out (by omega) (by omega) (by have := HE2.out.lt; simp [World.setCell]; omega) ?_); intro A3 c3 w3 hown3 (hgr3 : Grow _ _ (.slice none 0 0) _) hc4 (hA3 : A3 = none ↔ Value.slice none 0 0 = Value.slice none 0 0 ∧ m = 0); have hE3 := (HE2.out.set_ 2 (.slice A2 n c2)).grown hgr3.by_ (by simp [Value.ownBlock]); have q0 := hE3.cell 0; have q1 := hE3.cell 1; have q2 := hE3.cell 2; have q3 := hE3.cell 3; have fe3 := hE3.free 3; have hR3 := (HR2.out.far (p := ⟨w.heap.size, 2, none⟩) (by simp) (.slice A2 n c2)).grown hgr3.by_ (by simp [Value.ownBlock]); have r0 := hR3.cell 0; have r1 := hR3.cell 1; have r2 := hR3.cell 2; have r3 := hR3.cell 3; have fr0 := hR3.free 0; have fr1 := hR3.free 1; have fr2 := hR3.free 2; have fr3 := hR3.free 3; have HE3 := Lib.hid hE3; have HR3 := Lib.hid hR3; have HO3 := Lib.hid hown3; have HG3 := Lib.hid hgr3; have HA3 := Lib.hid hA3; clear hE3 hR3 hown3 hgr3 hA3))
  have hres := (HR3.out.far (p := ⟨w.heap.size, 3, none⟩) (by simp) (.slice A3 m c3)).set4 (.int .u8 k) (.int .u64 t) (.slice A2 n c2) (.slice A3 m c3)
  have n2 : some w.heap.size ≠ (Value.slice A2 n c2).ownBlock := HO2.out.blk_ne HE2.out (by decide)
  have n3 : some w.heap.size ≠ (Value.slice A3 m c3).ownBlock := HO3.out.blk_ne HE3.out (by decide)
  have r2 : some (w.heap.size + 1) ≠ (Value.slice A2 n c2).ownBlock := HO2.out.blk_ne HR2.out (by decide)
  have r3 : some (w.heap.size + 1) ≠ (Value.slice A3 m c3).ownBlock := HO3.out.blk_ne HR3.out (by decide)
  have hap : Apart (.slice A2 n c2) (.slice none 0 0) := (Apart.nil_ _ 0 0).symm
  have ho2 := HO2.out.setCell (p := ⟨w.heap.size, 2, none⟩) n2 (.slice A2 n c2)
  have hb2 : Below w.heap.size w w2 := HG2.out.below (((Below.refl w.heap.size w).alloc (Nat.le_refl _) _).alloc (by simp) _) ownBlock_nil (by simp; omega)
  have hb3 := HG3.out.below (hb2.setCell (p := ⟨w.heap.size, 2, none⟩) (Nat.le_refl _) (.slice A2 n c2)) ownBlock_nil (by have := HE2.out.lt; simp [World.setCell]; omega)
  refine bodyPost_ret (results_cell_row rfl _ _ (w.heap.size + 1) 63 _ (0, 0) _ rfl hres Try.underlying63 rfl (by kernel_rfl)) rfl ⟨A2, c2, A3, c3, rfl, ?_, ?_, ?_, ?_, ?_, ?_⟩
  · exact ((ho2.grow HG3.out hap).setCell (p := ⟨w.heap.size, 3, none⟩) n2 _).set4 r2 _ _ _ _
  · exact (HO3.out.setCell (p := ⟨w.heap.size, 3, none⟩) n3 _).set4 r3 _ _ _ _
  · exact HA2.out.trans (by simp)
  · exact HA3.out.trans (by simp)
  · exact HG3.out.apart ho2 hap
  · exact (hb3.setCell (p := ⟨w.heap.size, 3, none⟩) (Nat.le_refl _) _) |> fun h => below_set4 h (by simp) _ _ _ _

/-- What stands in the middle of Fit. -/
structure FitI (w wr : World) (kk tt : Int) (A : Option Addr) (len c : Nat) (B : Option Addr) (m d : Nat) (l : List Int) (bs : List UInt8) : Prop where
  ev : Blk wr w.heap.size 63 #[.int .u8 kk, .int .u64 tt, .slice A len c, .slice B m d]
  rs : Blk wr (w.heap.size + 1) 63 #[.int .u8 0, .int .u64 0, .slice none 0 0, .slice none 0 0]
  nu : Own u64v 25 wr w.heap.size (.slice A len c) l
  by_ : Own u8v 5 wr w.heap.size (.slice B m d) bs
  ap : Apart (.slice A len c) (.slice B m d)
  bl : Below w.heap.size w wr
def lenOf : Option Value → Nat
  | some (.slice _ n _) => n
  | _ => 0
theorem fit_start {w w2 w3 : World} {kk tt k t : Int} {A2 B2 A B : Option Addr} {n c2 m d2 c d : Nat} {l : List Int} {bs : List UInt8}
    (hE : Blk w2 w.heap.size 63 #[.int .u8 k, .int .u64 t, .slice A n c, .slice B m d]) (hR : Blk w2 (w.heap.size + 1) 63 #[.int .u8 0, .int .u64 0, .slice none 0 0, .slice none 0 0])
    (hO : Own u64v 25 w2 w.heap.size (.slice A2 n c2) l) (hP : Own u8v 5 w2 w.heap.size (.slice B2 m d2) bs) (hA : Apart (.slice A2 n c2) (.slice B2 m d2)) (hB : Below w.heap.size w w2)
    (hb3 : Below (((World.set4 w2 w.heap.size (.int .u8 k) (.int .u64 t) (.slice A2 n c2) (.slice B2 m d2)).setCell ⟨w.heap.size, 0, none⟩ (.int .u8 kk)).setCell ⟨w.heap.size, 1, none⟩ (.int .u64 tt)).heap.size
      (((World.set4 w2 w.heap.size (.int .u8 k) (.int .u64 t) (.slice A2 n c2) (.slice B2 m d2)).setCell ⟨w.heap.size, 0, none⟩ (.int .u8 kk)).setCell ⟨w.heap.size, 1, none⟩ (.int .u64 tt)) w3) :
    FitI w w3 kk tt A2 n c2 B2 m d2 l bs := by
  have n1 : some w.heap.size ≠ (Value.slice A2 n c2).ownBlock := hO.blk_ne hE (by decide)
  have n2 : some w.heap.size ≠ (Value.slice B2 m d2).ownBlock := hP.blk_ne hE (by decide)
  have hE1 := ((hE.set4 (.int .u8 k) (.int .u64 t) (.slice A2 n c2) (.slice B2 m d2)).set_ 0 (.int .u8 kk)).set_ 1 (.int .u64 tt)
  have hR1 := ((hR.far4 (g' := w.heap.size) (by omega) (.int .u8 k) (.int .u64 t) (.slice A2 n c2) (.slice B2 m d2)).far (p := ⟨w.heap.size, 0, none⟩) (by simp) (.int .u8 kk)).far (p := ⟨w.heap.size, 1, none⟩) (by simp) (.int .u64 tt)
  have hO1 := ((hO.set4 n1 (.int .u8 k) (.int .u64 t) (.slice A2 n c2) (.slice B2 m d2)).setCell (p := ⟨w.heap.size, 0, none⟩) n1 (.int .u8 kk)).setCell (p := ⟨w.heap.size, 1, none⟩) n1 (.int .u64 tt)
  have hP1 := ((hP.set4 n2 (.int .u8 k) (.int .u64 t) (.slice A2 n c2) (.slice B2 m d2)).setCell (p := ⟨w.heap.size, 0, none⟩) n2 (.int .u8 kk)).setCell (p := ⟨w.heap.size, 1, none⟩) n2 (.int .u64 tt)
  have hB1 := ((below_set4 hB (g := w.heap.size) (Nat.le_refl _) (.int .u8 k) (.int .u64 t) (.slice A2 n c2) (.slice B2 m d2)).setCell (p := ⟨w.heap.size, 0, none⟩) (Nat.le_refl _) (.int .u8 kk)).setCell (p := ⟨w.heap.size, 1, none⟩) (Nat.le_refl _) (.int .u64 tt)
  exact ⟨by simpa using hE1.below hb3 hE1.lt, hR1.below hb3 hR1.lt, hO1.below hb3 (Nat.le_refl _), hP1.below hb3 (Nat.le_refl _), hA, hB1.trans (hb3.mono hB1.size)⟩
theorem fit_step {w wr w3 : World} {kk tt x : Int} {A1 A3 B : Option Addr} {len c1 c3 m d : Nat} {l : List Int} {bs : List UInt8} {o : Obj} (h : FitI w wr kk tt A1 len c1 B m d l bs)
    (hown : Own u64v 25 w3 w.heap.size (.slice A3 (len + 1) c3) (l ++ [x])) (hg : Grow (wr.alloc o) w3 (.slice A1 len c1) (.slice A3 (len + 1) c3)) :
    FitI w (w3.setCell ⟨w.heap.size, 2, none⟩ (.slice A3 (len + 1) c3)) kk tt A3 (len + 1) c3 B m d (l ++ [x]) bs := by
  have hE := (h.ev.alloc o).grown hg.by_ (h.nu.blk_ne h.ev (by decide))
  have hR := (h.rs.alloc o).grown hg.by_ (h.nu.blk_ne h.rs (by decide))
  have hP := (h.by_.alloc o).grow hg h.ap.symm
  have hA := hg.apart (h.by_.alloc o) h.ap.symm
  refine ⟨by simpa using hE.set_ 2 (.slice A3 (len + 1) c3), hR.far (by simp) _, hown.setCell (hown.blk_ne hE (by decide)) _, hP.setCell (hP.blk_ne hE (by decide)) _, hA.symm, ?_⟩
  exact (hg.below (h.bl.alloc h.bl.size o) h.nu.lt (by have := h.bl.size; simp; omega)).setCell (Nat.le_refl _) _
theorem fit_cut {w wr : World} {kk tt : Int} {A1 B : Option Addr} {len c1 m d : Nat} {l : List Int} {bs : List UInt8} (h : FitI w wr kk tt A1 len c1 B m d l bs) (q : Nat) (hq : q ≤ len) :
    FitI w (wr.setCell ⟨w.heap.size, 2, none⟩ (.slice A1 q c1)) kk tt A1 q c1 B m d (l.take q) bs := by
  have hap : Apart (.slice A1 q c1) (.slice B m d) := by
    have h1 := h.ap
    unfold Apart at h1 ⊢
    rw [own_block_take (n := len)]
    exact h1
  refine ⟨by simpa using h.ev.set_ 2 (.slice A1 q c1), h.rs.far (by simp) _, ?_, h.by_.setCell (h.by_.blk_ne h.ev (by decide)) _, hap, h.bl.setCell (Nat.le_refl _) _⟩
  exact (h.nu.take q hq).setCell ((h.nu.take q hq).blk_ne h.ev (by decide)) _
theorem fit_mask {w wr : World} {kk tt : Int} {g : Nat} {B : Option Addr} {len c1 m d : Nat} {l : List Int} {bs : List UInt8} (h : FitI w wr kk tt (some ⟨g, 0, none⟩) len c1 B m d l bs) (p : Nat) (y : Int) :
    FitI w (wr.setCell ⟨g, p, none⟩ (u64v y)) kk tt (some ⟨g, 0, none⟩) len c1 B m d (l.set p y) bs := by
  obtain ⟨h1, h2⟩ := h.nu.set_ p y
  have n1 : w.heap.size ≠ g := fun e => h.nu.blk_ne h.ev (by decide) (by rw [e]; rfl)
  have n2 : w.heap.size + 1 ≠ g := fun e => h.nu.blk_ne h.rs (by decide) (by rw [e]; rfl)
  exact ⟨h.ev.far n1 _, h.rs.far n2 _, h1, h.by_.grow h2 h.ap.symm, h.ap, h.bl.setCell (h.nu.lt g rfl) _⟩
theorem fit_end {w wr : World} {kk tt : Int} {A1 B B' : Option Addr} {q c1 m d m' d' : Nat} {l : List Int} {bs bs' : List UInt8} (h : FitI w wr kk tt A1 q c1 B m d l bs)
    (hP : Own u8v 5 wr w.heap.size (.slice B' m' d') bs') (X : World) (hX : X = World.set4 (wr.setCell ⟨w.heap.size, 3, none⟩ (.slice B' m' d')) (w.heap.size + 1) (.int .u8 kk) (.int .u64 tt) (.slice A1 q c1) (.slice B' m' d')) :
    Blk X (w.heap.size + 1) 63 #[.int .u8 kk, .int .u64 tt, .slice A1 q c1, .slice B' m' d'] ∧ Own u64v 25 X w.heap.size (.slice A1 q c1) l ∧ Own u8v 5 X w.heap.size (.slice B' m' d') bs' ∧ Below w.heap.size w X := by
  subst hX
  refine ⟨(h.rs.far (p := ⟨w.heap.size, 3, none⟩) (by simp) _).set4 _ _ _ _, ?_, ?_, below_set4 (h.bl.setCell (p := ⟨w.heap.size, 3, none⟩) (Nat.le_refl _) _) (by omega) _ _ _ _⟩
  · exact (h.nu.setCell (p := ⟨w.heap.size, 3, none⟩) (h.nu.blk_ne h.ev (by decide)) _).set4 (h.nu.blk_ne h.rs (by decide)) _ _ _ _
  · exact (hP.setCell (p := ⟨w.heap.size, 3, none⟩) (hP.blk_ne h.ev (by decide)) _).set4 (hP.blk_ne h.rs (by decide)) _ _ _ _
theorem mask_le (x : Int) (h0 : 0 ≤ x) (h1 : x ≤ 18446744073709551615) : 0 ≤ bits .and .u64 x 4611686018427387903 ∧ bits .and .u64 x 4611686018427387903 ≤ 4611686018427387903 := by
  rw [u64_and x 4611686018427387903 h0 (by omega) (by omega) (by omega)]
  have : x.toNat &&& (4611686018427387903 : Int).toNat ≤ (4611686018427387903 : Int).toNat := Nat.and_le_right
  omega

set_option maxRecDepth 100000 in
set_option maxHeartbeats 1000000 in
theorem fit_any (k : Nat) (t : Int) (A : Option Addr) (n c : Nat) (B : Option Addr) (m d : Nat) (ns : List Int) (bs : List UInt8) (q : Nat) (j : Nat) (dt : Bool) (w : World) (hr : Rd u64v w w.heap.size A ns) (hn : ns.length = n) (hs : Rd u8v w w.heap.size B bs) (hm : bs.length = m) (hn9 : n ≤ 1000) (hm9 : m ≤ 1000) (hq9 : q ≤ 8) (hj : j < 256)
    (ht0 : 0 ≤ t) (ht1 : t ≤ 18446744073709551615) (hns : ∀ x ∈ ns, 0 ≤ x ∧ x ≤ 18446744073709551615)
    (hmany : ∀ w1 : World, Calls Try.prog 24 #[.int .u8 (1 + (j : Int) % 19)] w1 fun e w' => e = .returned (.tuple #[.int .i64 q, .bool dt]) ∧ Below w1.heap.size w1 w') :
    Calls Try.prog 36 #[.agg #[.int .u8 k, .int .u64 t, .slice A n c, .slice B m d], .int .u8 j] w fun e w' => ∃ A' c' l B' m' d', e = .returned (.agg #[.int .u8 (1 + (j : Int) % 19), .int .u64 (t % 1125899906842625), .slice A' q c', .slice B' m' d']) ∧
      Own u64v 25 w' w.heap.size (.slice A' q c') l ∧ Own u8v 5 w' w.heap.size (.slice B' m' d') (if dt = true then bs.take 20 else []) ∧ Apart (.slice A' q c') (.slice B' m' d') ∧ (∀ x ∈ l, 0 ≤ x ∧ x ≤ 4611686018427387903) ∧ Below w.heap.size w w' := by
  have HR := Lib.hid hr
  have HN := Lib.hid hn
  have HS := Lib.hid hs
  have HM := Lib.hid hm
  have HMANY := Lib.hid hmany
  have HNS := Lib.hid hns
  clear hr hn hs hm hmany hns
  go_enter Try.func36, Try.ntmps36
  go_wp2_with (first
    | (go_at_call 41; refine (clone_any k t A n c B m d ns bs _ ((HR.out.alloc (Nat.le_refl _) _).alloc (by simp) _ |>.more (by simp; omega)) HN.out ((HS.out.alloc (Nat.le_refl _) _).alloc (by simp) _ |>.more (by simp; omega)) HM.out (by omega) (by omega)).mono ?_; rintro e w2 ⟨A2, c2, B2, d2, rfl, ho2, hp2, hA2, hB2, hap2, hb2⟩; have hE2 := ((Blk.new w 63 #[.int .u8 k, .int .u64 t, .slice A n c, .slice B m d]).alloc (.cells #[.int .u8 0, .int .u64 0, .slice none 0 0, .slice none 0 0] 63)).below hb2 (by simp; omega); have hR2 := (Blk.new_ (w.alloc (.cells #[.int .u8 k, .int .u64 t, .slice A n c, .slice B m d] 63)) 63 #[.int .u8 0, .int .u64 0, .slice none 0 0, .slice none 0 0] (w.heap.size + 1) (by simp)).below hb2 (by simp); have e0 := hE2.cell 0; have e1 := hE2.cell 1; have e2 := hE2.cell 2; have e3 := hE2.cell 3; have fe0 := hE2.free 0; have fe1 := hE2.free 1; have fe2 := hE2.free 2; have fe3 := hE2.free 3; have HE2 := Lib.hid hE2; have HR2 := Lib.hid hR2; have HO2 := Lib.hid (ho2.more (base' := w.heap.size) (by simp; omega)); have HP2 := Lib.hid (hp2.more (base' := w.heap.size) (by simp; omega)); have HAP2 := Lib.hid hap2; have HB2 : Hid (Below w.heap.size w w2) := (((Below.refl w.heap.size w).alloc (Nat.le_refl _) _).alloc (by simp) _).trans (hb2.mono (by simp; omega)); have HA2 := Lib.hid hA2; have HBB2 := Lib.hid hB2; clear ho2 hp2 hap2 hb2 hE2 hR2 hA2 hB2)
    | (go_at_call 24; refine (HMANY.out _).mono ?_; rintro e w3 ⟨rfl, hb3⟩; have hst := fit_start HE2.out HR2.out HO2.out HP2.out HAP2.out HB2.out hb3; have HST := Lib.hid hst; clear hst hb3 e0 e1 e2 e3 fe0 fe1 fe2 fe3))
  go_loopw [] (fun wr => ∃ A1 len c1 l, Hid (FitI w wr (1 + (j : Int) % 19) (t % 1125899906842625) A1 len c1 B2 m d2 l bs) ∧ len ≤ 1000 ∧ Hid (∀ x ∈ l, 0 ≤ x ∧ x ≤ 18446744073709551615)) (fun wr => q - lenOf (wr.cell? ⟨w.heap.size, 2, none⟩))
  case atStart => exact ⟨A2, n, c2, ns, HST, hn9, HNS⟩
  case round =>
    obtain ⟨A1, len, c1, l, HF, hlen, HL⟩ := hrel
    have x0 := HF.out.ev.cell 0
    have x1 := HF.out.ev.cell 1
    have x2 := HF.out.ev.cell 2
    have x3 := HF.out.ev.cell 3
    have HLL : Hid (l.length = len) := HF.out.nu.cap.1
    have hsz : w.heap.size ≤ wr.heap.size := HF.out.bl.size
    by_cases hlq : len < q
    · go_wp2_with (at_builtin; go_loud (refine wpList_appL _ rfl (.tmp 30) (.tmp 36) _ rfl 25 (.int .u64 0) 8 rowL u64v u64v_one w.heap.size _ l rfl (HF.out.nu.alloc _) (wr.heap.size + 1) _ 1 1 [_] rfl (Rd.one u64v _ _ _) rfl _ (len + 1) rfl (by have := HLL.out; simp; omega) (by omega) (by omega) (by simp; omega) ?_); intro A3 c3 w3 hown3 (hgr3 : Grow _ _ (.slice A1 len c1) _) hc3 hA3; have hE3 := (HF.out.ev.alloc _).grown hgr3.by_ (HF.out.nu.blk_ne HF.out.ev (by decide)); have y2 := hE3.cell 2; have f2 := hE3.free 2; have HF3 := Lib.hid (fit_step HF.out hown3 hgr3); clear hown3 hgr3 hA3 hE3)
      case roundEnd =>
        refine ⟨⟨A3, len + 1, c3, _, HF3, by omega, Lib.hid ?_⟩, ?_⟩
        · intro y hy
          rcases List.mem_append.1 hy with hy | hy
          · exact HL.out y hy
          · simp at hy
            subst hy
            omega
        · rw [x2, HF3.out.ev.cell 2]
          show q - (len + 1) < q - len
          omega
    · have f2 := HF.out.ev.free 2
      obtain ⟨-, hcap1, hcap2⟩ := HF.out.nu.cap
      unfold maxLen at hcap2
      have hqc : q ≤ c1 := by omega
      have HC := Lib.hid (fit_cut HF.out q (by omega))
      have HCL : Hid (∀ x ∈ l.take q, 0 ≤ x ∧ x ≤ 18446744073709551615) := fun x hx => HL.out x (List.mem_of_mem_take hx)
      go_wp2_with fail
      clear x0 x1 x2 x3 f2 HF HL HLL
      go_loopw [47] (fun i wr' => ∃ p l', p ≤ q ∧ i = .int .i64 (p : Nat) ∧ Hid (FitI w wr' (1 + (j : Int) % 19) (t % 1125899906842625) A1 q c1 B2 m d2 l' bs) ∧ Hid (∀ x ∈ l'.take p, 0 ≤ x ∧ x ≤ 4611686018427387903) ∧ Hid (∀ x ∈ l', 0 ≤ x ∧ x ≤ 18446744073709551615)) (fun i _ => q - (intOf i).toNat)
      case atStart => exact ⟨0, _, by omega, rfl, HC, by simp [Hid], HCL⟩
      case round =>
        obtain ⟨p, l', hp, rfl, HF, HP, HL⟩ := hrel
        clear HC HCL
        have x2 := HF.out.ev.cell 2
        have x3 := HF.out.ev.cell 3
        have HLL : Hid (l'.length = q) := HF.out.nu.cap.1
        by_cases hpq : p < q
        · have hpi : (p : Int) < (q : Int) := by omega
          obtain ⟨g, hA, -, -⟩ := HF.out.nu.form (by omega)
          subst hA
          have hpl : p < l'.length := by rw [HLL.out]; exact hpq
          have y0 := HF.out.nu.cell p hpl
          have fy := HF.out.nu.free p
          obtain ⟨x, hx⟩ : ∃ x, x = l'[p] := ⟨_, rfl⟩
          have HX : Hid (l'[p] = x) := hx.symm
          rw [← hx] at y0
          have hxb : 0 ≤ x ∧ x ≤ 18446744073709551615 := by rw [hx]; exact HL.out _ (List.getElem_mem hpl)
          clear hx
          unfold u64v at y0
          go_wp2_with fail
          case roundEnd =>
            have hmk := mask_le x hxb.1 hxb.2
            have HM2 := fit_mask HF.out p (bits .and .u64 x 4611686018427387903)
            generalize bits .and .u64 x 4611686018427387903 = y at hmk HM2 ⊢
            refine ⟨⟨p + 1, l'.set p y, by omega, rfl, HM2, Lib.hid ?_, Lib.hid ?_⟩, ?_⟩
            · intro z hz
              rw [List.take_succ_eq_append_getElem (by simpa using hpl)] at hz
              rcases List.mem_append.1 hz with hz | hz
              · rw [List.take_set_of_le (Nat.le_refl _)] at hz
                exact HP.out z hz
              · simp at hz; subst hz; exact hmk
            · intro z hz
              rcases List.mem_or_eq_of_mem_set hz with hz | hz
              · exact HL.out z hz
              · subst hz; omega
            · show _ - (((p : Int) + 1).toNat) < _ - ((p : Int).toNat)
              omega
        · obtain rfl : p = q := by omega
          have x0 := HF.out.ev.cell 0
          have x1 := HF.out.ev.cell 1
          have f3 := HF.out.ev.free 3
          have r0 := HF.out.rs.cell 0
          have r1 := HF.out.rs.cell 1
          have r2 := HF.out.rs.cell 2
          have r3 := HF.out.rs.cell 3
          have fr0 := HF.out.rs.free 0
          have fr1 := HF.out.rs.free 1
          have fr2 := HF.out.rs.free 2
          have fr3 := HF.out.rs.free 3
          have hlast : ∀ x ∈ l', 0 ≤ x ∧ x ≤ 4611686018427387903 := by
            have := HP.out
            rwa [List.take_of_length_le (by rw [HLL.out]; exact Nat.le_refl _)] at this
          cases dt
          · go_wp2_with fail
            obtain ⟨b1, b2, b3, b4⟩ := fit_end HF.out (Own.none_ u8v 5 wr w.heap.size) _ rfl
            exact bodyPost_ret (results_cell_row rfl _ _ (w.heap.size + 1) 63 _ (0, 0) _ rfl b1 Try.underlying63 rfl (by kernel_rfl)) rfl ⟨_, _, l', none, 0, 0, rfl, b2, b3, (Apart.nil_ _ 0 0).symm, hlast, b4⟩
          · obtain ⟨-, hcap3, hcap4⟩ := HF.out.by_.cap
            unfold maxLen at hcap4
            by_cases hm20 : m ≤ 20
            · have hmi : (m : Int) ≤ 20 := by omega
              go_wp2_with fail
              obtain ⟨b1, b2, b3, b4⟩ := fit_end HF.out (show Own u8v 5 wr w.heap.size (.slice B2 m d2) (bs.take 20) from by rw [List.take_of_length_le (by rw [HM.out]; exact hm20)]; exact HF.out.by_) _ rfl
              exact bodyPost_ret (results_cell_row rfl _ _ (w.heap.size + 1) 63 _ (0, 0) _ rfl b1 Try.underlying63 rfl (by kernel_rfl)) rfl ⟨_, _, l', B2, m, d2, rfl, b2, b3, HF.out.ap, hlast, b4⟩
            · have hmi : ¬ (m : Int) ≤ 20 := by omega
              have hdi : 20 ≤ d2 := by omega
              go_wp2_with fail
              obtain ⟨b1, b2, b3, b4⟩ := fit_end HF.out (HF.out.by_.take 20 (by omega)) _ rfl
              exact bodyPost_ret (results_cell_row rfl _ _ (w.heap.size + 1) 63 _ (0, 0) _ rfl b1 Try.underlying63 rfl (by kernel_rfl)) rfl ⟨_, _, l', B2, 20, d2, rfl, b2, b3, fun kk hk hk2 => HF.out.ap kk hk (by rw [own_block_take (n := 20)]; exact hk2), hlast, b4⟩
end Go.Proofs.Ytmpnhiehkiiepaa
