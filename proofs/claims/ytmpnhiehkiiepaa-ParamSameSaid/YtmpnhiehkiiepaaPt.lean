/-
  What stands in memory in the middle of binnaclelaw10.ParamSame. No condition.
-/
import Derived.Test.YtmpnhiehkiiepaaApk
import Derived.Test.YtmpnhiehkiiepaaPs
import Derived.Test.YtmpnhiehkiiepaaPn
import Derived.Test.YtmpnhiehkiiepaaAwk10
namespace Go.Proofs.Ytmpnhiehkiiepaa
open Go.RowKit

structure PSt (w wc : World) (pv bv qv rv : Array Value) (gq gr : Nat) (A3 : Option Addr) (bs : List UInt8) (A4 : Option Addr) (bs4 : List UInt8) : Prop where
  ea : Blk wc w.heap.size 83 pv
  eb : Blk wc (w.heap.size + 1) 83 bv
  eq_ : Blk wc gq 83 qv
  er : Blk wc gr 83 rv
  rq : Rd u8v wc wc.heap.size A3 bs
  rr : Rd u8v wc wc.heap.size A4 bs4
  bl : Below w.heap.size w wc
theorem PSt.call {w wc w' : World} {pv bv qv rv : Array Value} {gq gr : Nat} {A3 A4 : Option Addr} {bs bs4 : List UInt8} (h : PSt w wc pv bv qv rv gq gr A3 bs A4 bs4) (hb : Below wc.heap.size wc w') : PSt w w' pv bv qv rv gq gr A3 bs A4 bs4 :=
  ⟨h.ea.call hb, h.eb.call hb, h.eq_.call hb, h.er.call hb, (h.rq.below hb (Nat.le_refl _)).more hb.size, (h.rr.below hb (Nat.le_refl _)).more hb.size, below_then h.bl hb⟩
theorem pst_mk {w w2 : World} {pv bv qv : Array Value} {gq n c3 : Nat} {A3 : Option Addr} {bs : List UInt8} (ha : Blk w2 w.heap.size 83 pv) (hb : Blk w2 (w.heap.size + 1) 83 bv) (hq : Blk w2 gq 83 qv) (hg : w.heap.size + 1 < gq)
    (ho : Own u8v 5 w2 w.heap.size (.slice A3 n c3) bs) (hl : Below w.heap.size w w2) (rv : Array Value) :
    PSt w ((w2.setCell ⟨gq, 9, none⟩ (.slice A3 n c3)).alloc (.cells rv 83)) pv bv (qv.setIfInBounds 9 (.slice A3 n c3)) rv gq w2.heap.size A3 bs A3 bs ∧ Own u8v 5 ((w2.setCell ⟨gq, 9, none⟩ (.slice A3 n c3)).alloc (.cells rv 83)) w.heap.size (.slice A3 n c3) bs := by
  have ho2 := (ho.setCell (p := ⟨gq, 9, none⟩) (ho.blk_ne hq (by decide)) (.slice A3 n c3)).alloc (.cells rv 83)
  refine ⟨⟨(ha.far (by simp; omega) _).alloc _, (hb.far (by simp; omega) _).alloc _, (hq.set_ 9 _).alloc _, Blk.new_ _ _ _ _ (by simp [World.setCell]), ho2.rd, ho2.rd, below_alloc (hl.setCell (p := ⟨gq, 9, none⟩) (by simp; omega) _) (Nat.le_refl _) _⟩, ho2⟩
theorem pst_app {w wc w3 : World} {pv bv qv rv : Array Value} {gq gr n c3 N c4 : Nat} {A3 A4 : Option Addr} {bs bs4 : List UInt8} {o : Obj} (h : PSt w wc pv bv qv rv gq gr A3 bs A3 bs) (ho : Own u8v 5 wc w.heap.size (.slice A3 n c3) bs)
    (hg : Grow (wc.alloc o) w3 (.slice A3 n c3) (.slice A4 N c4)) (hn : Own u8v 5 w3 w.heap.size (.slice A4 N c4) bs4) (hk : Rd u8v w3 w3.heap.size A3 bs) : PSt w w3 pv bv qv rv gq gr A3 bs A4 bs4 :=
  ⟨(h.ea.alloc o).grown hg.by_ (ho.blk_ne h.ea (by decide)), (h.eb.alloc o).grown hg.by_ (ho.blk_ne h.eb (by decide)), (h.eq_.alloc o).grown hg.by_ (ho.blk_ne h.eq_ (by decide)), (h.er.alloc o).grown hg.by_ (ho.blk_ne h.er (by decide)), hk, hn.rd,
    hg.below (h.bl.alloc h.bl.size o) ho.lt (by have := h.bl.size; simp; omega)⟩
theorem pst_set {w wc : World} {pv bv qv rv : Array Value} {gq gr N c4 : Nat} {A3 A4 : Option Addr} {bs bs4 : List UInt8} (h : PSt w wc pv bv qv rv gq gr A3 bs A4 bs4) (h1 : w.heap.size + 1 < gq) (h2 : gq < gr)
    (hn : Own u8v 5 wc w.heap.size (.slice A4 N c4) bs4) (ht : some gr ≠ A3.map (·.block)) : PSt w (wc.setCell ⟨gr, 9, none⟩ (.slice A4 N c4)) pv bv qv (rv.setIfInBounds 9 (.slice A4 N c4)) gq gr A3 bs A4 bs4 := by
  refine ⟨h.ea.far (by simp; omega) _, h.eb.far (by simp; omega) _, h.eq_.far (by simp; omega) _, h.er.set_ _ _, ?_, (hn.setCell (hn.blk_ne h.er (by decide)) _).rd, h.bl.setCell (p := ⟨gr, 9, none⟩) (by simp; omega) _⟩
  refine ⟨h.rq.1, fun hn => ?_⟩
  obtain ⟨b, off, hA, hlt, hc⟩ := h.rq.2 hn
  subst hA
  refine ⟨b, off, rfl, by simpa [World.setCell] using hlt, fun j u hu => ?_⟩
  refine (World.cell?_setCell_other wc ⟨gr, 9, none⟩ ⟨b, off + j, none⟩ _ (fun e => ht ?_)).trans (hc j u hu)
  simp at e ⊢
  exact e.1
theorem pst_cells {w wc : World} {x0 x1 x2 x3 x4 x5 x6 x7 x8 y0 y1 y2 y3 y4 y5 y6 y7 y8 u0 u1 u2 u3 u4 u5 u6 u7 u8 : Int} {A B A3 A4 : Option Addr} {n c m d c3 n4 c4 gq gr : Nat} {bs bs4 : List UInt8}
    (h : PSt w wc #[.int .u64 x0, .int .u64 x1, .int .u64 x2, .int .u64 x3, .int .u64 x4, .int .u64 x5, .int .u64 x6, .int .u64 x7, .int .u64 x8, .slice A n c] #[.int .u64 y0, .int .u64 y1, .int .u64 y2, .int .u64 y3, .int .u64 y4, .int .u64 y5, .int .u64 y6, .int .u64 y7, .int .u64 y8, .slice B m d] #[.int .u64 x0, .int .u64 x1, .int .u64 x2, .int .u64 x3, .int .u64 x4, .int .u64 x5, .int .u64 x6, .int .u64 x7, .int .u64 x8, .slice A3 n c3] #[.int .u64 u0, .int .u64 u1, .int .u64 u2, .int .u64 u3, .int .u64 u4, .int .u64 u5, .int .u64 u6, .int .u64 u7, .int .u64 u8, .slice A4 n4 c4] gq gr A3 bs A4 bs4) : wc.cell? ⟨w.heap.size, 0, none⟩ = some (.int .u64 x0) ∧ wc.cell? ⟨w.heap.size, 1, none⟩ = some (.int .u64 x1) ∧ wc.cell? ⟨w.heap.size, 2, none⟩ = some (.int .u64 x2) ∧ wc.cell? ⟨w.heap.size, 3, none⟩ = some (.int .u64 x3) ∧ wc.cell? ⟨w.heap.size, 4, none⟩ = some (.int .u64 x4) ∧ wc.cell? ⟨w.heap.size, 5, none⟩ = some (.int .u64 x5) ∧ wc.cell? ⟨w.heap.size, 6, none⟩ = some (.int .u64 x6) ∧ wc.cell? ⟨w.heap.size, 7, none⟩ = some (.int .u64 x7) ∧ wc.cell? ⟨w.heap.size, 8, none⟩ = some (.int .u64 x8) ∧ wc.cell? ⟨w.heap.size, 9, none⟩ = some (.slice A n c) ∧ wc.cell? ⟨w.heap.size + 1, 0, none⟩ = some (.int .u64 y0) ∧ wc.cell? ⟨w.heap.size + 1, 1, none⟩ = some (.int .u64 y1) ∧ wc.cell? ⟨w.heap.size + 1, 2, none⟩ = some (.int .u64 y2) ∧ wc.cell? ⟨w.heap.size + 1, 3, none⟩ = some (.int .u64 y3) ∧ wc.cell? ⟨w.heap.size + 1, 4, none⟩ = some (.int .u64 y4) ∧ wc.cell? ⟨w.heap.size + 1, 5, none⟩ = some (.int .u64 y5) ∧ wc.cell? ⟨w.heap.size + 1, 6, none⟩ = some (.int .u64 y6) ∧ wc.cell? ⟨w.heap.size + 1, 7, none⟩ = some (.int .u64 y7) ∧ wc.cell? ⟨w.heap.size + 1, 8, none⟩ = some (.int .u64 y8) ∧ wc.cell? ⟨w.heap.size + 1, 9, none⟩ = some (.slice B m d) ∧ wc.cell? ⟨gq, 0, none⟩ = some (.int .u64 x0) ∧ wc.cell? ⟨gq, 1, none⟩ = some (.int .u64 x1) ∧ wc.cell? ⟨gq, 2, none⟩ = some (.int .u64 x2) ∧ wc.cell? ⟨gq, 3, none⟩ = some (.int .u64 x3) ∧ wc.cell? ⟨gq, 4, none⟩ = some (.int .u64 x4) ∧ wc.cell? ⟨gq, 5, none⟩ = some (.int .u64 x5) ∧ wc.cell? ⟨gq, 6, none⟩ = some (.int .u64 x6) ∧ wc.cell? ⟨gq, 7, none⟩ = some (.int .u64 x7) ∧ wc.cell? ⟨gq, 8, none⟩ = some (.int .u64 x8) ∧ wc.cell? ⟨gq, 9, none⟩ = some (.slice A3 n c3) ∧ wc.cell? ⟨gr, 0, none⟩ = some (.int .u64 u0) ∧ wc.cell? ⟨gr, 1, none⟩ = some (.int .u64 u1) ∧ wc.cell? ⟨gr, 2, none⟩ = some (.int .u64 u2) ∧ wc.cell? ⟨gr, 3, none⟩ = some (.int .u64 u3) ∧ wc.cell? ⟨gr, 4, none⟩ = some (.int .u64 u4) ∧ wc.cell? ⟨gr, 5, none⟩ = some (.int .u64 u5) ∧ wc.cell? ⟨gr, 6, none⟩ = some (.int .u64 u6) ∧ wc.cell? ⟨gr, 7, none⟩ = some (.int .u64 u7) ∧ wc.cell? ⟨gr, 8, none⟩ = some (.int .u64 u8) ∧ wc.cell? ⟨gr, 9, none⟩ = some (.slice A4 n4 c4) :=
  ⟨h.ea.cell 0, h.ea.cell 1, h.ea.cell 2, h.ea.cell 3, h.ea.cell 4, h.ea.cell 5, h.ea.cell 6, h.ea.cell 7, h.ea.cell 8, h.ea.cell 9, h.eb.cell 0, h.eb.cell 1, h.eb.cell 2, h.eb.cell 3, h.eb.cell 4, h.eb.cell 5, h.eb.cell 6, h.eb.cell 7, h.eb.cell 8, h.eb.cell 9, h.eq_.cell 0, h.eq_.cell 1, h.eq_.cell 2, h.eq_.cell 3, h.eq_.cell 4, h.eq_.cell 5, h.eq_.cell 6, h.eq_.cell 7, h.eq_.cell 8, h.eq_.cell 9, h.er.cell 0, h.er.cell 1, h.er.cell 2, h.er.cell 3, h.er.cell 4, h.er.cell 5, h.er.cell 6, h.er.cell 7, h.er.cell 8, h.er.cell 9⟩
end Go.Proofs.Ytmpnhiehkiiepaa
