/-
  What stands in memory in the middle of binnaclelaw24.EventSame. No condition.
-/
import Derived.Test.YtmpnhiehkiiepaaEvS
import Derived.Test.YtmpnhiehkiiepaaEvF
namespace Go.Proofs.Ytmpnhiehkiiepaa
open Go.RowKit

theorem Own.apart_ty {α β : Type} {f : α → Value} {f' : β → Value} {e e' : TypeId} {w : World} {base base' : Nat} {x y : Value} {l : List α} {l' : List β} (hx : Own f e w base x l) (hy : Own f' e' w base' y l') (hne : e ≠ e') : Apart x y := by
  rcases hx.2 with ⟨rfl, _⟩ | ⟨g, cap, cur, rfl, _, hh, _⟩
  · exact Apart.nil_ _ _ _
  · intro k hk hk2
    have hk : g = k := by have : some g = some k := hk; injection this
    subst hk
    exact hy.blk_ne (g := g) (cs := cur) hh (fun e => hne e.symm) hk2.symm

/-- Two events that came in, a copy. -/
structure ESc (w wc : World) (av bv cv : Array Value) (gc : Nat) (Nc Bc : Value) (ns : List Int) (bs : List UInt8) : Prop where
  ea : Blk wc w.heap.size 63 av
  eb : Blk wc (w.heap.size + 1) 63 bv
  ec : Blk wc gc 63 cv
  nc : Own u64v 25 wc w.heap.size Nc ns
  bc : Own u8v 5 wc w.heap.size Bc bs
  gc_ : w.heap.size + 2 ≤ gc
  bl : Below w.heap.size w wc
/-- The same, and another one. -/
structure ESt (w wc : World) (av bv cv dv : Array Value) (gc gd : Nat) (Nc Bc Nd Bd : Value) (ns : List Int) (bs : List UInt8) (ns4 : List Int) (bs4 : List UInt8) : Prop where
  ea : Blk wc w.heap.size 63 av
  eb : Blk wc (w.heap.size + 1) 63 bv
  ec : Blk wc gc 63 cv
  ed : Blk wc gd 63 dv
  nc : Own u64v 25 wc w.heap.size Nc ns
  bc : Own u8v 5 wc w.heap.size Bc bs
  nd : Own u64v 25 wc w.heap.size Nd ns4
  bd : Own u8v 5 wc w.heap.size Bd bs4
  ap : Apart Nc Nd
  apb : Apart Bc Bd
  gc_ : w.heap.size + 2 ≤ gc
  gd_ : gc < gd
  bl : Below w.heap.size w wc

theorem esc_mk {w w2 w3 : World} {av bv cv : Array Value} {Nc Bc : Value} {ns : List Int} {bs : List UInt8} (ha : Blk w2 w.heap.size 63 av) (hb : Blk w2 (w.heap.size + 1) 63 bv) (hl : Below w.heap.size w w2)
    (hb3 : Below w2.heap.size w2 w3) (hn : Own u64v 25 w3 w2.heap.size Nc ns) (hs : Own u8v 5 w3 w2.heap.size Bc bs) : ESc w (w3.alloc (.cells cv 63)) av bv cv w3.heap.size Nc Bc ns bs :=
  ⟨(ha.call hb3).alloc _, (hb.call hb3).alloc _, Blk.new _ _ _, (hn.alloc _).more hl.size, (hs.alloc _).more hl.size, by have := (hb.call hb3).lt; omega, below_alloc (below_then hl hb3) (Nat.le_refl _) _⟩
theorem ESc.call {w wc w' : World} {av bv cv : Array Value} {gc : Nat} {Nc Bc : Value} {ns : List Int} {bs : List UInt8} (h : ESc w wc av bv cv gc Nc Bc ns bs) (hb : Below wc.heap.size wc w') : ESc w w' av bv cv gc Nc Bc ns bs :=
  ⟨h.ea.call hb, h.eb.call hb, h.ec.call hb, h.nc.below hb (Nat.le_refl _), h.bc.below hb (Nat.le_refl _), h.gc_, below_then h.bl hb⟩
theorem est_mk {w w4 w5 : World} {av bv cv dv : Array Value} {gc : Nat} {Nc Bc Nd Bd : Value} {ns ns4 : List Int} {bs bs4 : List UInt8} (h : ESc w w4 av bv cv gc Nc Bc ns bs) (hb5 : Below w4.heap.size w4 w5)
    (hn : Own u64v 25 w5 w4.heap.size Nd ns4) (hs : Own u8v 5 w5 w4.heap.size Bd bs4) : ESt w (w5.alloc (.cells dv 63)) av bv cv dv gc w5.heap.size Nc Bc Nd Bd ns bs ns4 bs4 := by
  have h5 := h.call hb5
  refine ⟨h5.ea.alloc _, h5.eb.alloc _, h5.ec.alloc _, Blk.new _ _ _, h5.nc.alloc _, h5.bc.alloc _, (hn.alloc _).more h.bl.size, (hs.alloc _).more h.bl.size, ?_, ?_, h.gc_, h5.ec.lt, below_alloc h5.bl (Nat.le_refl _) _⟩
  · intro k hk hk2
    have h1 := h.nc.bound k hk
    have h2 := hn.lt k hk2
    omega
  · intro k hk hk2
    have h1 := h.bc.bound k hk
    have h2 := hs.lt k hk2
    omega
section
variable {w wc w' w3 : World} {av bv cv dv : Array Value} {gc gd : Nat} {Nc Bc Nd Bd Nd' Bd' : Value} {ns ns4 ns4' : List Int} {bs bs4 bs4' : List UInt8}
theorem ESt.call (h : ESt w wc av bv cv dv gc gd Nc Bc Nd Bd ns bs ns4 bs4) (hb : Below wc.heap.size wc w') : ESt w w' av bv cv dv gc gd Nc Bc Nd Bd ns bs ns4 bs4 :=
  ⟨h.ea.call hb, h.eb.call hb, h.ec.call hb, h.ed.call hb, h.nc.below hb (Nat.le_refl _), h.bc.below hb (Nat.le_refl _), h.nd.below hb (Nat.le_refl _), h.bd.below hb (Nat.le_refl _), h.ap, h.apb, h.gc_, h.gd_, below_then h.bl hb⟩
theorem ESt.setd (h : ESt w wc av bv cv dv gc gd Nc Bc Nd Bd ns bs ns4 bs4) (i : Nat) (v : Value) : ESt w (wc.setCell ⟨gd, i, none⟩ v) av bv cv (dv.setIfInBounds i v) gc gd Nc Bc Nd Bd ns bs ns4 bs4 := by
  have h1 := h.gc_
  have h2 := h.gd_
  exact ⟨h.ea.far (by simp; omega) _, h.eb.far (by simp; omega) _, h.ec.far (by simp; omega) _, h.ed.set_ _ _, h.nc.setCell (h.nc.blk_ne h.ed (by decide)) _, h.bc.setCell (h.bc.blk_ne h.ed (by decide)) _, h.nd.setCell (h.nd.blk_ne h.ed (by decide)) _, h.bd.setCell (h.bd.blk_ne h.ed (by decide)) _, h.ap, h.apb, h.gc_, h.gd_, h.bl.setCell (p := ⟨gd, i, none⟩) (by simp; omega) _⟩
theorem ESt.growN {o : Obj} (h : ESt w wc av bv cv dv gc gd Nc Bc Nd Bd ns bs ns4 bs4) (hg : Grow (wc.alloc o) w3 Nd Nd') (ho : Own u64v 25 w3 w.heap.size Nd' ns4') : ESt w w3 av bv cv dv gc gd Nc Bc Nd' Bd ns bs ns4' bs4 :=
  ⟨(h.ea.alloc o).grown hg.by_ (h.nd.blk_ne h.ea (by decide)), (h.eb.alloc o).grown hg.by_ (h.nd.blk_ne h.eb (by decide)), (h.ec.alloc o).grown hg.by_ (h.nd.blk_ne h.ec (by decide)), (h.ed.alloc o).grown hg.by_ (h.nd.blk_ne h.ed (by decide)),
    (h.nc.alloc o).grow hg h.ap, (h.bc.alloc o).grow hg (h.bc.apart_ty h.nd (by decide)), ho, (h.bd.alloc o).grow hg (h.bd.apart_ty h.nd (by decide)), hg.apart (h.nc.alloc o) h.ap, h.apb, h.gc_, h.gd_, hg.below (h.bl.alloc h.bl.size o) h.nd.lt (by have := h.bl.size; simp; omega)⟩
theorem ESt.growB {o : Obj} (h : ESt w wc av bv cv dv gc gd Nc Bc Nd Bd ns bs ns4 bs4) (hg : Grow (wc.alloc o) w3 Bd Bd') (ho : Own u8v 5 w3 w.heap.size Bd' bs4') : ESt w w3 av bv cv dv gc gd Nc Bc Nd Bd' ns bs ns4 bs4' :=
  ⟨(h.ea.alloc o).grown hg.by_ (h.bd.blk_ne h.ea (by decide)), (h.eb.alloc o).grown hg.by_ (h.bd.blk_ne h.eb (by decide)), (h.ec.alloc o).grown hg.by_ (h.bd.blk_ne h.ec (by decide)), (h.ed.alloc o).grown hg.by_ (h.bd.blk_ne h.ed (by decide)),
    (h.nc.alloc o).grow hg (h.nc.apart_ty h.bd (by decide)), (h.bc.alloc o).grow hg h.apb, (h.nd.alloc o).grow hg (h.nd.apart_ty h.bd (by decide)), ho, h.ap, hg.apart (h.bc.alloc o) h.apb, h.gc_, h.gd_, hg.below (h.bl.alloc h.bl.size o) h.bd.lt (by have := h.bl.size; simp; omega)⟩
theorem ESt.setc {g n c : Nat} (h : ESt w wc av bv cv dv gc gd (.slice (some ⟨g, 0, none⟩) n c) Bc Nd Bd ns bs ns4 bs4) (y : Int) : ESt w (wc.setCell ⟨g, 0, none⟩ (u64v y)) av bv cv dv gc gd (.slice (some ⟨g, 0, none⟩) n c) Bc Nd Bd (ns.set 0 y) bs ns4 bs4 := by
  obtain ⟨h1, h2⟩ := h.nc.set_ 0 y
  have n1 : w.heap.size ≠ g := fun e => h.nc.blk_ne h.ea (by decide) (by rw [e]; rfl)
  have n2 : w.heap.size + 1 ≠ g := fun e => h.nc.blk_ne h.eb (by decide) (by rw [e]; rfl)
  have n3 : gc ≠ g := fun e => h.nc.blk_ne h.ec (by decide) (by rw [e]; rfl)
  have n4 : gd ≠ g := fun e => h.nc.blk_ne h.ed (by decide) (by rw [e]; rfl)
  exact ⟨h.ea.far n1 _, h.eb.far n2 _, h.ec.far n3 _, h.ed.far n4 _, h1, h.bc.grow h2 (h.bc.apart_ty h.nc (by decide)), h.nd.grow h2 h.ap.symm, h.bd.grow h2 (h.bd.apart_ty h.nc (by decide)), h.ap, h.apb, h.gc_, h.gd_, h.bl.setCell (p := ⟨g, 0, none⟩) (h.nc.lt g rfl) _⟩
end

theorem light_two (k : Nat) (t : Int) (A : Option Addr) (n c : Nat) (B : Option Addr) (m d : Nat) (k2 : Nat) (t2 : Int) (A2 : Option Addr) (n2 c2 : Nat) (B2 : Option Addr) (m2 d2 : Nat) (w : World) {b : Bool} (hb : lightF [⟨k, t, A, n, c, B, m, d⟩, ⟨k2, t2, A2, n2, c2, B2, m2, d2⟩] = b) {o : Obj}
    (ho : o = .cells #[.int .u8 k, .int .u64 t, .slice A n c, .slice B m d, .int .u8 k2, .int .u64 t2, .slice A2 n2 c2, .slice B2 m2 d2] 63) :
    Calls Try.prog 34 #[.slice (some ⟨w.heap.size, 0, none⟩) 2 2] (w.alloc o) fun e w' => e = .returned (.bool b) ∧ Below (w.alloc o).heap.size (w.alloc o) w' := by
  subst hb
  subst ho
  refine light_any _ 2 2 [⟨k, t, A, n, c, B, m, d⟩, ⟨k2, t2, A2, n2, c2, B2, m2, d2⟩] _ ?_ rfl (by omega)
  intro _
  refine ⟨_, _, rfl, by simp, fun j x hj i v hv => ?_⟩
  match j, hj with
  | 0, hj =>
    injection hj with hj
    subst hj
    match i, hv with
    | 0, hv => exact new_slot _ _ _ _ hv
    | 1, hv => exact new_slot _ _ _ _ hv
    | 2, hv => exact new_slot _ _ _ _ hv
    | 3, hv => exact new_slot _ _ _ _ hv
  | 1, hj =>
    injection hj with hj
    subst hj
    match i, hv with
    | 0, hv => exact new_slot _ _ _ _ hv
    | 1, hv => exact new_slot _ _ _ _ hv
    | 2, hv => exact new_slot _ _ _ _ hv
    | 3, hv => exact new_slot _ _ _ _ hv
end Go.Proofs.Ytmpnhiehkiiepaa
