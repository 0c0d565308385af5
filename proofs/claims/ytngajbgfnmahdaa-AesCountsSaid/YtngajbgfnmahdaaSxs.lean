/-
  Calls of functions that only read what they are handed: the callee sees plain addresses. Over any program. No condition of its own.
-/
import Derived.Test.YtngajbgfnmahdaaSxq
namespace Go.Proofs.Ytngajbgfnmahdaa
namespace Sx
open Go.RowKit

/-- Where block i begins, and some cells on. -/
def adr (r : Rho) (i off : Nat) : Addr := match r[i]? with
  | some (B, f) => ⟨B, f + off, none⟩
  | none => ⟨0, 0, none⟩
def rawC (r : Rho) : SC → SC
  | .p i b o => .ptr (some (adr r i (b + o)))
  | .sl i b o n c => .slc (some (adr r i (b + o))) n c
  | .clo g i b o => .fnv (.func g) #[.pointer (some (adr r i (b + o)))] #[]
  | x => x
def rawL (r : Rho) : List Seg → List Seg
  | [] => []
  | .one x :: l => .one (rawC r x) :: rawL r l
  | .row n f :: l => .row n (fun j => rawC r (f j)) :: rawL r l
def rawA (r : Rho) : SA → SA
  | .c x => .c (rawC r x)
  | .agg l => .agg (rawL r l)
theorem flat_raw (r : Rho) : ∀ l : List Seg, flat (rawL r l) = (flat l).map (rawC r)
  | [] => rfl
  | .one x :: l => by simp [rawL, flat, flat_raw r l]
  | .row n f :: l => by simp [rawL, flat, flat_raw r l, Function.comp_def]
theorem SC.Is.raw {r : Rho} {x : SC} {v : Value} (h : x.Is r v) : (rawC r x).Is [] v := by
  cases x <;> first
    | exact h
    | (obtain ⟨B, f, e, rfl⟩ := h; simp only [rawC, adr, e]; rfl)
theorem IsL.raw {r : Rho} {l : List SC} {vs : List Value} (h : IsL r l vs) : IsL [] (l.map (rawC r)) vs := by
  refine ⟨by simpa using h.1, fun j x e => ?_⟩
  rw [List.getElem?_map, Option.map_eq_some_iff] at e
  obtain ⟨y, hy, rfl⟩ := e
  obtain ⟨v, e1, e2⟩ := h.2 j y hy
  exact ⟨v, e1, e2.raw⟩
theorem SA.Is.raw {r : Rho} {x : SA} {v : Value} (h : x.Is r v) : (rawA r x).Is [] v := by
  cases x with
  | c x => exact SC.Is.raw (x := x) h
  | agg l =>
    obtain ⟨vs, e, h⟩ := h
    refine ⟨vs, e, ?_⟩
    show IsL [] (flat (rawL r l)) vs
    rw [flat_raw]
    exact h.raw
theorem IsAs.raw {r : Rho} {l : List SA} {vs : List Value} (h : IsAs r l vs) : IsAs [] (l.map (rawA r)) vs := by
  refine ⟨by simpa using h.1, fun j x e => ?_⟩
  rw [List.getElem?_map, Option.map_eq_some_iff] at e
  obtain ⟨y, hy, rfl⟩ := e
  obtain ⟨v, e1, e2⟩ := h.2 j y hy
  exact ⟨v, e1, e2.raw⟩
/-- The cells l lie at a, and are only read. -/
def Held (w : World) (a : Addr) (l : List Seg) : Prop :=
  a.spot = none ∧ a.block < w.heap.size ∧ ∀ (j : Nat) (x : SC), (flat l)[j]? = some x → ∃ v, w.cell? ⟨a.block, a.off + j, none⟩ = some v ∧ x.Is [] v
theorem HeapOk.held {C : Cx} {h : List (List Seg)} {r : Rho} {w : World} (ok : HeapOk C h r w) {i : Nat} {ch : List Seg} (hi : h[i]? = some ch) : Held w (adr r i 0) (rawL r ch) := by
  have hl : i < r.length := by
    rw [ok.len]
    rcases Nat.lt_or_ge i h.length with h1 | h1
    · exact h1
    · rw [List.getElem?_eq_none h1] at hi; cases hi
  obtain ⟨⟨B, f⟩, hr⟩ : ∃ x, r[i]? = some x := ⟨_, List.getElem?_eq_getElem hl⟩
  have ha : adr r i 0 = ⟨B, f, none⟩ := by simp only [adr, hr]; rfl
  rw [ha]
  refine ⟨rfl, ok.lt i B f hr, fun j x e => ?_⟩
  rw [flat_raw, List.getElem?_map, Option.map_eq_some_iff] at e
  obtain ⟨y, hy, rfl⟩ := e
  obtain ⟨v, e1, e2, _⟩ := ok.chunks i ch B f hi hr j y hy
  exact ⟨v, e1, e2.raw⟩
theorem add_eq {a : Addr} (h : a.spot = none) (n : Nat) : a.add n = ⟨a.block, a.off + n, none⟩ := by
  obtain ⟨b, o, s⟩ := a
  simp only at h
  subst h
  unfold Addr.add
  split
  · rename_i h0; subst h0; rfl
  · rfl
theorem add_add {a : Addr} (h : a.spot = none) (n m : Nat) : (a.add n).add m = a.add (n + m) := by
  rw [add_eq h, add_eq rfl, add_eq h]; simp only [Nat.add_assoc]
theorem Held.seg {w : World} {a : Addr} {l : List Seg} (h : Held w a l) {P : Program} {T : List (Nat × TD)} (off : Nat) {xs : List SC} (hx : ∀ j x, xs[j]? = some x → (flat l)[off + j]? = some x) : RawAt ⟨P, T, w, [], []⟩ (a.add off) xs := by
  rw [add_eq h.1]
  refine ⟨rfl, h.2.1, by simp, fun j x e => ?_⟩
  obtain ⟨v, e1, e2⟩ := h.2.2 (off + j) x (hx j x e)
  refine ⟨v, ?_, e2⟩
  show w.cell? ⟨a.block, a.off + off + j, none⟩ = some v
  rwa [show a.off + off + j = a.off + (off + j) by omega]
theorem Held.one {w : World} {a : Addr} {l : List Seg} (h : Held w a l) {P : Program} {T : List (Nat × TD)} (off : Nat) {x : SC} (hx : (flat l)[off]? = some x) : RawAt ⟨P, T, w, [], []⟩ (a.add off) [x] :=
  h.seg off fun j y e => by
    cases j with
    | zero => simp at e; subst e; exact hx
    | succ j => simp at e
theorem Held.off {w : World} {a b : Addr} {l : List Seg} (h : Held w a l) (off : Nat) (hb : b = a.add off) {l' : List Seg} (hx : ∀ (j : Nat) (x : SC), (flat l')[j]? = some x → (flat l)[off + j]? = some x) : Held w b l' := by
  rw [add_eq h.1] at hb
  subst hb
  refine ⟨rfl, h.2.1, fun j x e => ?_⟩
  obtain ⟨v, e1, e2⟩ := h.2.2 (off + j) x (hx j x e)
  refine ⟨v, ?_, e2⟩
  show w.cell? ⟨a.block, a.off + off + j, none⟩ = some v
  rwa [show a.off + off + j = a.off + (off + j) by omega]
/-- A call of a function that only reads. -/
theorem call_raw {C : Cx} {qt : Keep} {f : FuncId} {args : List SA} {t : List SV} {h : List (List Seg)} {k : SV → List (List Seg) → Prop} {args0 : Rho → List SA} {raw : Rho → World → Prop} {Res : SV → List (List Seg) → Prop}
    (hfn : ∀ r, Fn C.P C.T f [] (args0 r) (raw r) Res) (hA : ∀ r, args0 r = args.map (rawA r)) (hraw : ∀ r w, HeapOk C h r w → raw r w)
    (hk : ∀ x hs, Res x hs → lenK h 0 fun N => backK (bk N []) [] hs h fun h' => k (x.mp (bk N [])) h') : CallVC C qt f #[] args #[] t h k := by
  intro r a w vs ok ha
  have ok0 : HeapOk ⟨C.P, C.T, w, (rn [] r).map (·.1), rn [] r⟩ [] [] w :=
    ⟨Ext.refl _ _, RLe.refl _, rfl, fun i ch B f hi => by simp at hi, fun i B f hr => by simp at hr, fun i B f hr => by simp at hr, fun i j B f f' ch ch' _ hi => by simp at hi⟩
  have hcall := hfn r w [] vs ok0 (by rw [hA r]; exact ha.raw) (hraw r w ok.heap)
  have hargs : (#[] : Array Value) ++ vs.toArray ++ #[] = vs.toArray := by simp
  rw [hargs]
  refine hcall.mono ?_
  rintro e w' ⟨v, x, hs, r', rfl, hx, hok, hres⟩
  obtain ⟨o1, o2, o3, o4⟩ := ok.heap.back (q := []) List.nodup_nil (fun i hi => by cases hi) (fun i hi => by cases hi) hok
  have hk' := hk x hs hres
  rw [lenK_eq, Nat.zero_add, backK_eq] at hk'
  refine ⟨v, _, _, _, rfl, hx.mp o3, o2, o1, ⟨(o4 rfl).nil _, fun i B f e => ?_, Stand.of_quiet ok.heap (o4 rfl)⟩, hk'⟩
  rw [List.getElem?_append] at e
  split at e
  · exact .inl (List.mem_map.2 ⟨(B, f), List.mem_of_getElem? e, rfl⟩)
  · rw [List.getElem?_drop] at e
    rcases hok.own _ B f e with h | h
    · cases h
    · exact .inr h
end Sx
end Go.Proofs.Ytngajbgfnmahdaa
