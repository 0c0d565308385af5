/-
  Texts of this claim, part 8: PoG, Sxw2, PoH. No condition of its own.
-/
import Derived.Test.YtkjdkeolkigibaaG7
section
/-
  The law ParamOrder. No condition.
-/
namespace Go.Proofs.Ytkjdkeolkigibaa
set_option linter.unusedVariables false
namespace Vi
open Sha Sx
/-- A number of what is wanted, when i of them were put. -/
def wv (b : Nat → Bool) (N : Nat → BitVec 64) (i k : Nat) : BitVec 64 := if k < i ∧ b k = true then N k else if k = 8 then 2#64 else 0#64
theorem wv_skip {b : Nat → Bool} {N : Nat → BitVec 64} {i k : Nat} (h : b i = false) : wv b N i k = wv b N (i + 1) k := by
  unfold wv
  by_cases hk : k = i
  · subst hk; simp [h]
  · by_cases h1 : k < i
    · simp [h1, show k < i + 1 by omega]
    · simp [h1, show ¬ k < i + 1 by omega]
theorem wv_ne {b : Nat → Bool} {N : Nat → BitVec 64} {i k : Nat} (hk : k ≠ i) : wv b N i k = wv b N (i + 1) k := by
  unfold wv
  by_cases h1 : k < i
  · simp [h1, show k < i + 1 by omega]
  · simp [h1, show ¬ k < i + 1 by omega]
theorem wv_eq {b : Nat → Bool} {N : Nat → BitVec 64} {i : Nat} (h : b i = true) : N i = wv b N (i + 1) i := by
  unfold wv; rw [if_pos ⟨by omega, h⟩]
theorem nine_j {p : Pm} {i : Nat} (hi : i < 9) : (nineL p)[i]? = some (numJ p i) := by
  have hi : i = 0 ∨ i = 1 ∨ i = 2 ∨ i = 3 ∨ i = 4 ∨ i = 5 ∨ i = 6 ∨ i = 7 ∨ i = 8 := by omega
  rcases hi with rfl | rfl | rfl | rfl | rfl | rfl | rfl | rfl | rfl <;> rfl
abbrev ids9L : List (BitVec 64) := [1#64, 4#64, 5#64, 6#64, 7#64, 8#64, 9#64, 11#64, 14#64]
theorem ids_j {i : Nat} (hi : i < 9) : ids9L[i]? = some (idI i) := by
  have hi : i = 0 ∨ i = 1 ∨ i = 2 ∨ i = 3 ∨ i = 4 ∨ i = 5 ∨ i = 6 ∨ i = 7 ∨ i = 8 := by omega
  rcases hi with rfl | rfl | rfl | rfl | rfl | rfl | rfl | rfl | rfl <;> rfl
theorem itemsK_len {b : Nat → Bool} {N : Nat → BitVec 64} : ∀ {k : Nat}, (itemsK b N k).length ≤ k
  | 0 => Nat.le_refl _
  | k + 1 => by
    have := itemsK_len (b := b) (N := N) (k := k)
    rw [itemsK, List.length_append]
    split
    · show _ + 1 ≤ _; omega
    · show _ + 0 ≤ _; omega
theorem itemsK_t {b : Nat → Bool} {N : Nat → BitVec 64} {i : Nat} (h : b i = true) : itemsK b N (i + 1) = itemsK b N i ++ [⟨idI i, putL (N i)⟩] := by rw [itemsK, if_pos h]
theorem itemsK_f {b : Nat → Bool} {N : Nat → BitVec 64} {i : Nat} (h : b i = false) : itemsK b N (i + 1) = itemsK b N i := by rw [itemsK, h, if_neg (by decide), List.append_nil]
end Vi
namespace Sx
open Go.RowKit Sha Vi
abbrev wantC (w : Nat → BitVec 64) (a : Option Addr) (n c : Nat) : List Seg := [.one (.w64 (w 0)), .one (.w64 (w 1)), .one (.w64 (w 2)), .one (.w64 (w 3)), .one (.w64 (w 4)), .one (.w64 (w 5)), .one (.w64 (w 6)), .one (.w64 (w 7)), .one (.w64 (w 8)), .one (.slc a n c)]
abbrev ptr9 (i : Nat) : List SC := [.p i 0 0, .p i 1 0, .p i 2 0, .p i 3 0, .p i 4 0, .p i 5 0, .p i 6 0, .p i 7 0, .p i 8 0]
theorem vc_skip {C : Cx} {s : St} {Q : Exit → St → Prop} (h : Q .normal s) : vc C .skip s Q := h
theorem kseq_n {f : St → Prop} {Q : Exit → St → Prop} {s : St} (h : f s) : Kseq f Q .normal s := h
/-- A join: what comes behind (c) is gone through once; ahead of it stands any P that holds where T says. -/
theorem vc_join1 {C : Cx} {a c : Code} {s : St} {Q : Exit → St → Prop} (T : (St → Prop) → Prop) (hb : T (fun s' => vc C c s' Q)) (ha : ∀ P : St → Prop, T P → vc C a s (Kseq P Q)) : vc C (.seq a c) s Q := ha _ hb
theorem vc_join7 {C : Cx} {a1 a2 a3 a4 a5 a6 a7 c : Code} {s : St} {Q : Exit → St → Prop} (T : (St → Prop) → Prop) (hb : T (fun s' => vc C c s' Q))
    (ha : ∀ P : St → Prop, T P → vc C a1 s (Kseq (fun s => vc C a2 s (Kseq (fun s => vc C a3 s (Kseq (fun s => vc C a4 s (Kseq (fun s => vc C a5 s (Kseq (fun s => vc C a6 s (Kseq (fun s => vc C a7 s (Kseq P Q)) Q)) Q)) Q)) Q)) Q)) Q)) :
    vc C (.seq a1 (.seq a2 (.seq a3 (.seq a4 (.seq a5 (.seq a6 (.seq a7 c))))))) s Q := ha _ hb
theorem frzB {W : World} {ms : List Nat} {A : Addr} {F : Nat → Bool} {α : Nat → Addr} {c : Nat} {f : Nat → SC} {l : Bs} (h : flat [.row c f] ≠ [] → ImAt W ms A (((flat [.row c f]).map (SC.rz F α)).map SC.raw)) (hf : ∀ j, j < l.length → f j = .w8 (L l j)) (hn : l.length ≤ c) (hc : l.length ≤ 9223372036854775807) : BsAt W ms (some (A.add (0 + 0))) l.length c l :=
  SlAt.frz h rfl hn hc (by decide) (by simp) (fun j x e => by
    have hj : j < l.length := by have := (List.getElem?_eq_some_iff.1 e).1; simpa using this
    rw [hf j hj]
    rw [List.getElem?_map, List.getElem?_eq_getElem hj, Option.map_some] at e
    injection e with e
    rw [← e, L_lt hj]) (fun x hx => by
    obtain ⟨y, _, rfl⟩ := List.mem_map.1 hx
    rfl)
theorem eqC_rm {q : List Nat} {F : Nat → Bool} {α : Nat → Addr} {g : Nat → Nat} {x : SC} (h : x.raw = x) : eqC q (SC.rz F α (SC.mp g x)) x True := by rw [mp_rawI h, rz_idI h]; exact eqC_rawI h
theorem eqC_r {q : List Nat} {F : Nat → Bool} {α : Nat → Addr} {x : SC} (h : x.raw = x) : eqC q (SC.rz F α x) x True := by rw [rz_idI h]; exact eqC_rawI h
theorem nums_raw {l : List (BitVec 64)} {j : Nat} : (numsF l j).raw = numsF l j := by unfold numsF; split <;> rfl
theorem app_snoc {W : World} {ms : List Nat} {f f' g : Nat → SC} {l : List It} (h : ItF W ms f l) (hr : ∀ j, (f j).raw = f j) {n : Nat} (hn : l.length = n) {id : BitVec 64} {x : ItC} {q : List Nat} {F : Nat → Bool} {α : Nat → Addr} (hf : ∀ j, f' j = f j) (h0 : SC.rz F α (g 0) = .w64 id) (h1 : SC.rz F α (g 1) = .slc x.a x.n x.c) (j : Nat) :
    eqC q (SC.rz F α (appF f' 0 (scale n (1 + 1)) (scale 1 (1 + 1)) g j)) (snocF f n id x j) True :=
  eqC_snoc (G := fun j => SC.rz F α (appF f' 0 (scale n (1 + 1)) (scale 1 (1 + 1)) g j)) h hn (fun j hj => by
    show SC.rz F α (appF f' 0 (scale n (1 + 1)) (scale 1 (1 + 1)) g j) = f j
    rw [app_lo hj, hf, rz_idI (hr j)]) (by
    show SC.rz F α (appF f' 0 (scale n (1 + 1)) (scale 1 (1 + 1)) g (n * 2)) = _
    rw [app_hi (j := n * 2) (i := 0) (by omega) (by decide)]; exact h0) (by
    show SC.rz F α (appF f' 0 (scale n (1 + 1)) (scale 1 (1 + 1)) g (n * 2 + 1)) = _
    rw [app_hi (j := n * 2 + 1) (i := 1) (by omega) (by decide)]; exact h1) j
theorem new_snoc {f g : Nat → SC} {id : BitVec 64} {x : ItC} {q : List Nat} {F : Nat → Bool} {α : Nat → Addr} (h0 : SC.rz F α (g 0) = .w64 id) (h1 : SC.rz F α (g 1) = .slc x.a x.n x.c) (j : Nat) :
    eqC q (SC.rz F α (newF (scale 1 (1 + 1)) g j)) (snocF f 0 id x j) True :=
  eqC_snoc (W := default) (ms := []) (l := []) (G := fun j => SC.rz F α (newF (scale 1 (1 + 1)) g j)) ItF.nil rfl (n := 0) (fun j hj => absurd hj (by omega)) (by
    show SC.rz F α (newF (scale 1 (1 + 1)) g 0) = _
    rw [new_lo (by decide)]; exact h0) (by
    show SC.rz F α (newF (scale 1 (1 + 1)) g 1) = _
    rw [new_lo (by decide)]; exact h1) j
theorem eqC_snocR {f G : Nat → SC} {n : Nat} {id : BitVec 64} {x : ItC} {q : List Nat} (hr : ∀ j, j < n * 2 → (f j).raw = f j) (hG : ∀ j, j < n * 2 → G j = f j) (h0 : G (n * 2) = .w64 id) (h1 : G (n * 2 + 1) = .slc x.a x.n x.c) (j : Nat) : eqC q (G j) (snocF f n id x j) True := by
  unfold snocF
  split
  · rename_i hj
    rw [hG j hj]
    exact eqC_rawI (hr j hj)
  · split
    · rename_i hj; subst hj; rw [h0]; exact ⟨rfl, trivial⟩
    · split
      · rename_i hj; subst hj; rw [h1]; exact ⟨rfl, trivial⟩
      · trivial
theorem app_snoc2 {f f' g : Nat → SC} (hr : ∀ j, (f j).raw = f j) {n : Nat} {id id2 : BitVec 64} {x y : ItC} (hf : ∀ j, f' j = f j) (h0 : g 0 = .w64 id) (h1 : g 1 = .slc x.a x.n x.c) (h2 : g 2 = .w64 id2) (h3 : g 3 = .slc y.a y.n y.c) (q : List Nat) (j : Nat) :
    eqC q (appF f' 0 (scale n (1 + 1)) (scale 2 (1 + 1)) g j) (snocF (snocF f n id x) (n + 1) id2 y j) True :=
  eqC_snocR (G := fun j => appF f' 0 (scale n (1 + 1)) (scale 2 (1 + 1)) g j) (fun j _ => snoc_raw (fun j _ => hr j) j) (fun j hj => by
    show appF f' 0 (scale n (1 + 1)) (scale 2 (1 + 1)) g j = _
    unfold snocF
    by_cases c1 : j < n * 2
    · rw [if_pos c1, app_lo c1, hf]
    · rw [if_neg c1]
      by_cases c2 : j = n * 2
      · rw [if_pos c2, app_hi (i := 0) (by omega) (by decide), h0]
      · rw [if_neg c2, if_pos (by omega), app_hi (i := 1) (by omega) (by decide), h1]) (by
    show appF f' 0 (scale n (1 + 1)) (scale 2 (1 + 1)) g _ = _
    rw [app_hi (i := 2) (by omega) (by decide), h2]) (by
    show appF f' 0 (scale n (1 + 1)) (scale 2 (1 + 1)) g _ = _
    rw [app_hi (i := 3) (by omega) (by decide), h3]) j
theorem new_snoc2 {g : Nat → SC} {id id2 : BitVec 64} {x y : ItC} (h0 : g 0 = .w64 id) (h1 : g 1 = .slc x.a x.n x.c) (h2 : g 2 = .w64 id2) (h3 : g 3 = .slc y.a y.n y.c) (q : List Nat) (j : Nat) :
    eqC q (newF (scale 2 (1 + 1)) g j) (snocF (snocF (fun _ => .any) 0 id x) (0 + 1) id2 y j) True :=
  eqC_snocR (G := fun j => newF (scale 2 (1 + 1)) g j) (fun j _ => snoc_raw (fun j hj => absurd hj (by omega)) j) (fun j hj => by
    show newF (scale 2 (1 + 1)) g j = _
    rw [new_lo (by omega)]
    unfold snocF
    by_cases c2 : j = 0
    · rw [if_neg (by omega), if_pos (by omega), c2, h0]
    · rw [if_neg (by omega), if_neg (by omega), if_pos (by omega), show j = 1 by omega, h1]) (by
    show newF (scale 2 (1 + 1)) g _ = _
    rw [new_lo (by omega)]; exact h2) (by
    show newF (scale 2 (1 + 1)) g _ = _
    rw [new_lo (by omega)]; exact h3) j
theorem flat_mark {N : Nat} {f z : Nat → SC} : flat [.row N f, .row 0 z] = (List.range N).map f := by simp [flat]
theorem flat_rowO {N : Nat} {f : Nat → SC} : flat [.row N f] = (List.range N).map f := by simp [flat]
theorem app_snocE {f f' g : Nat → SC} {n : Nat} {id : BitVec 64} {x : ItC} (hf : ∀ j, f' j = f j) (h0 : g 0 = .w64 id) (h1 : g 1 = .slc x.a x.n x.c) (j : Nat) (hj : j < (n + 1) * 2) : appF f' 0 (scale n (1 + 1)) (scale 1 (1 + 1)) g j = snocF f n id x j := by
  unfold snocF
  by_cases c1 : j < n * 2
  · rw [if_pos c1, app_lo c1, hf]
  · rw [if_neg c1]
    by_cases c2 : j = n * 2
    · rw [if_pos c2, app_hi (i := 0) (by omega) (by decide), h0]
    · rw [if_neg c2, if_pos (by omega), app_hi (i := 1) (by omega) (by decide), h1]
theorem upd_snocE {f f' g : Nat → SC} {n : Nat} {id : BitVec 64} {x : ItC} (hf : ∀ j, f' j = f j) (h0 : g 0 = .w64 id) (h1 : g 1 = .slc x.a x.n x.c) (j : Nat) (hj : j < (n + 1) * 2) : updN f' (0 + scale n (1 + 1)) (scale 1 (1 + 1)) g j = snocF f n id x j := by
  unfold snocF updN
  rw [sc2, sc2]
  by_cases c1 : j < n * 2
  · rw [if_pos c1, if_neg (by omega), hf]
  · rw [if_neg c1, if_pos (by omega)]
    by_cases c2 : j = n * 2
    · rw [if_pos c2, show j - (0 + n * 2) = 0 by omega, h0]
    · rw [if_neg c2, if_pos (by omega), show j - (0 + n * 2) = 1 by omega, h1]
theorem upd_lo {f g : Nat → SC} {n m j : Nat} (hj : j < n * 2) : updN f (0 + scale n (1 + 1)) (scale m (1 + 1)) g j = f j := by
  unfold updN; rw [sc2, if_neg (by omega)]
def not15 (y : It) : Bool := decide (y.id ≠ 15#64)
theorem two_items {W : World} {ms : List Nat} {A : Addr} {m : List SC} (h : ImAt W ms A m) {id1 id2 : BitVec 64} {a1 a2 : Option Addr} {n1 n2 c1 c2 : Nat} {v1 v2 : Bs} (hm : m = [.w64 id1, .slc a1 n1 c1, .w64 id2, .slc a2 n2 c2]) (h1 : BsAt W ms a1 n1 c1 v1) (h2 : BsAt W ms a2 n2 c2 v2) :
    ItsAt W ms (some (A.add (0 + 0))) 2 2 [⟨id1, v1⟩, ⟨id2, v2⟩] := by
  have hF : ItF W ms (nthC m) [⟨id1, v1⟩, ⟨id2, v2⟩] := fun k e he => by
    subst hm
    match k, he with
    | 0, he => injection he with he; subst he; exact ⟨⟨a1, n1, c1⟩, rfl, rfl, h1⟩
    | 1, he => injection he with he; subst he; exact ⟨⟨a2, n2, c2⟩, rfl, rfl, h2⟩
  refine hF.im (n := 2) rfl (fun _ => h) (fun j hj => ?_) (Nat.le_refl _) (show (2 : Nat) ≤ 9223372036854775807 by decide)
  subst hm
  have hj : j = 0 ∨ j = 1 ∨ j = 2 ∨ j = 3 := by omega
  rcases hj with rfl | rfl | rfl | rfl <;> rfl
theorem cut_raw {f : Nat → SC} {n : Nat} (h : ∀ j, (f j).raw = f j) (j : Nat) : (cutC n f j).raw = cutC n f j := by
  unfold cutC
  split
  · exact h j
  · rfl
theorem app_snocP {f f' g : Nat → SC} (hr : ∀ j, (f j).raw = f j) {n : Nat} {id : BitVec 64} {x : ItC} (hf : ∀ j, f' j = f j) (h0 : g 0 = .w64 id) (h1 : g 1 = .slc x.a x.n x.c) (q : List Nat) (j : Nat) :
    eqC q (appF f' 0 (scale n (1 + 1)) (scale 1 (1 + 1)) g j) (snocF f n id x j) True :=
  eqC_snocR (G := fun j => appF f' 0 (scale n (1 + 1)) (scale 1 (1 + 1)) g j) (fun j _ => hr j) (fun j hj => by
    show appF f' 0 (scale n (1 + 1)) (scale 1 (1 + 1)) g j = _
    rw [app_lo hj, hf]) (by
    show appF f' 0 (scale n (1 + 1)) (scale 1 (1 + 1)) g _ = _
    rw [app_hi (i := 0) (by omega) (by decide), h0]) (by
    show appF f' 0 (scale n (1 + 1)) (scale 1 (1 + 1)) g _ = _
    rw [app_hi (i := 1) (by omega) (by decide), h1]) j
theorem new_snocP {g : Nat → SC} {id : BitVec 64} {x : ItC} (h0 : g 0 = .w64 id) (h1 : g 1 = .slc x.a x.n x.c) (q : List Nat) (j : Nat) : eqC q (newF (scale 1 (1 + 1)) g j) (snocF (fun _ => .any) 0 id x j) True :=
  eqC_snocR (G := fun j => newF (scale 1 (1 + 1)) g j) (fun j hj => absurd hj (by omega)) (fun j hj => absurd hj (by omega)) (by
    show newF (scale 1 (1 + 1)) g _ = _
    rw [new_lo (by omega)]; exact h0) (by
    show newF (scale 1 (1 + 1)) g _ = _
    rw [new_lo (by omega)]; exact h1) j
set_option maxRecDepth 20000 in
set_option maxHeartbeats 16000000 in
theorem fn_paramOrder {W : World} {ms : List Nat} (p : Pm) {a : Option Addr} {n c : Nat} (h : BsAt W ms a n c p.s.l) {aO : Option Addr} {nO cO : Nat} {os : Bs} (hO : BsAt W ms aO nO cO os) (skip : BitVec 16) {aB : Option Addr} {nB cB : Nat} {other : Bs} (hB : BsAt W ms aB nB cB other) (id : BitVec 64) :
    FnR Try.prog tds 5 1 [[.past W ms]] [.agg (pmR p a c), .c (.slc aO nO cO), .c (.w16 skip), .c (.slc aB nB cB), .c (.w64 id)] (fun _ => True)
    (fun y hs => y = .a (.c (.bool true))) := by
  have hn1 := h.n1
  have hle := h.le
  have hO1 := hO.n1
  have hB1 := hB.n1
  subst hO1
  subst hB1
  refine fn_of_body tds_ok follows_ Try.func5 rfl (t := .a (.agg (pmR p a c)) :: .a (.c (.slc aO os.length cO)) :: .a (.c (.w16 skip)) :: .a (.c (.slc aB other.length cB)) :: .a (.c (.w64 id)) :: anys (Try.f5.ntmps - 5)) rfl (fun w r0 hr _ => ?_)
  obtain ⟨x0, rfl⟩ := List.length_eq_one_iff.1 hr
  (repeat first | (refine And.intro ?_ ?_; first | exact rfl | ((exact fun h => absurd h (by first | decide)); intro yy; clear yy) | (rotate_left; (exact fun h => absurd h (by first | decide)); intro yy; clear yy) | decide | omega) | (with_reducible refine frc_bytesL (by first | omega | decide) ?_) | (with_reducible refine frc_bytesM (by first | omega | decide) ?_))
  refine call_same fn_awake10 [0] rfl (by (repeat first | exact trivial | refine ent1 ?_)) (by (repeat first | exact trivial | refine ent1 ?_)) (fun _ _ => trivial) ?_
  rintro y hs' ⟨rfl, rfl⟩
  (repeat first | (refine And.intro ?_ ?_; first | exact rfl | ((exact fun h => absurd h (by first | decide)); intro yy; clear yy) | (rotate_left; (exact fun h => absurd h (by first | decide)); intro yy; clear yy) | decide | omega) | (with_reducible refine frc_bytesL (by first | omega | decide) ?_) | (with_reducible refine frc_bytesM (by first | omega | decide) ?_))
  refine vc_skip ?_
  refine kseq_n ?_
  by_cases h1 : 300 < p.s.l.length
  · have e1 : decide ((300 : Int) < (p.s.l.length : Int)) = true := decide_eq_true (by omega)
    (repeat first | (refine And.intro ?_ ?_; first | exact rfl | ((exact fun h => absurd h (by first | decide | (rw [e1]; decide))); intro yy; clear yy) | (rotate_left; (exact fun h => absurd h (by first | decide | (rw [e1]; decide))); intro yy; clear yy) | decide | omega) | (with_reducible refine frc_bytesL (by first | omega | decide) ?_) | (with_reducible refine frc_bytesM (by first | omega | decide) ?_))
    refine ⟨.a (.c (.bool true)), [[.past W ms]], ⟨[0], ⟨rfl, rfl, rfl⟩, ?_⟩, rfl⟩
    (repeat first | exact trivial | refine ent1 ?_)
  have e1 : decide ((300 : Int) < (p.s.l.length : Int)) = false := decide_eq_false (by omega)
  by_cases h2 : 100 < other.length
  · have e2 : decide ((100 : Int) < (other.length : Int)) = true := decide_eq_true (by omega)
    (repeat first | (refine And.intro ?_ ?_; first | exact rfl | ((exact fun h => absurd h (by first | decide | (rw [e1]; decide) | (rw [e2]; decide))); intro yy; clear yy) | (rotate_left; (exact fun h => absurd h (by first | decide | (rw [e1]; decide) | (rw [e2]; decide))); intro yy; clear yy) | decide | omega) | (with_reducible refine frc_bytesL (by first | omega | decide) ?_) | (with_reducible refine frc_bytesM (by first | omega | decide) ?_))
    refine ⟨.a (.c (.bool true)), [[.past W ms]], ⟨[0], ⟨rfl, rfl, rfl⟩, ?_⟩, rfl⟩
    (repeat first | exact trivial | refine ent1 ?_)
  have e2 : decide ((100 : Int) < (other.length : Int)) = false := decide_eq_false (by omega)
  by_cases h3 : 2305843009213693952#64 < id
  · have e3 : decide (2305843009213693952#64 < id) = true := decide_eq_true h3
    (repeat first | (refine And.intro ?_ ?_; first | exact rfl | ((exact fun h => absurd h (by first | decide | (rw [e1]; decide) | (rw [e2]; decide) | (rw [e3]; decide))); intro yy; clear yy) | (rotate_left; (exact fun h => absurd h (by first | decide | (rw [e1]; decide) | (rw [e2]; decide) | (rw [e3]; decide))); intro yy; clear yy) | decide | omega) | (with_reducible refine frc_bytesL (by first | omega | decide) ?_) | (with_reducible refine frc_bytesM (by first | omega | decide) ?_))
    refine ⟨.a (.c (.bool true)), [[.past W ms]], ⟨[0], ⟨rfl, rfl, rfl⟩, ?_⟩, rfl⟩
    (repeat first | exact trivial | refine ent1 ?_)
  have e3 : decide (2305843009213693952#64 < id) = false := decide_eq_false h3
  have hid : id.toNat ≤ 2305843009213693952 := by
    rw [BitVec.lt_def] at h3
    have : (2305843009213693952#64 : BitVec 64).toNat = 2305843009213693952 := rfl
    omega
  (iterate 8 first | (refine And.intro ?_ ?_; first | exact rfl | ((exact fun h => absurd h (by first | decide | (rw [e1]; decide) | (rw [e2]; decide) | (rw [e3]; decide))); intro yy; clear yy) | (rotate_left; (exact fun h => absurd h (by first | decide | (rw [e1]; decide) | (rw [e2]; decide) | (rw [e3]; decide))); intro yy; clear yy) | decide | omega) | (with_reducible refine frc_bytesL (by first | omega | decide) ?_) | (with_reducible refine frc_bytesM (by first | omega | decide) ?_))
  refine vc_skip ?_
  refine kseq_n ?_
  obtain ⟨x, hx⟩ : ∃ x, x = fitP p := ⟨_, rfl⟩
  have hxc : checkP x = 0 := by rw [hx]; exact fit_check p
  have hxs : x.s.l = p.s.l.take 20 := by rw [hx]; rfl
  have hxA : BsAt W ms a x.s.l.length c x.s.l := by rw [hxs]; exact h.takeB 20
  have hxl : x.s.l.length ≤ 20 := by rw [hxs, List.length_take]; omega
  have hFit := fn_lpfitR p h
  rw [← hx] at hFit
  obtain ⟨b, hb⟩ : ∃ b : Nat → Bool, b = (fun k => decide ((skip >>> k) &&& 1#16 = 0#16)) := ⟨_, rfl⟩
  obtain ⟨N, hN⟩ : ∃ N : Nat → BitVec 64, N = numJ x := ⟨_, rfl⟩
  have hNj : ∀ i, i < 9 → (nineL x)[i]? = some (N i) := fun i hi => by rw [hN]; exact nine_j hi
  have hNl : ∀ i, i < 9 → lenN (N i) ≠ 0 := by rw [hN]; exact num_len hxc
  obtain ⟨I0, hI0⟩ : ∃ I0, I0 = items0 b N x.s.l id other := ⟨_, rfl⟩
  refine vc_join7 (fun P => ∀ (W' : World) (ms' : List Nat) (f : Nat → SC) (n' c' : Nat) (h2 h4 h5 h6 : List Seg) (v12 v15 v67 v68 v69 v94 v95 v96 v97 v98 v99 v100 v101 v102 v103 : SV), Later W ms W' ms' → (∃ f', ItF W' ms' f' I0 ∧ (∀ j, (f' j).raw = f' j) ∧ ∀ q j, eqC q (f j) (f' j) True) → I0.length = n' → n' ≤ c' →
    P ⟨[.any, .a (.c (.slc aO os.length cO)), .a (.c (.w16 (skip))), .a (.c (.slc aB other.length cB)), .a (.c (.w64 (id))), .any, .any, .any, .any, .any, .any, .a (.c (.p 1 0 0)), v12, .a (.c (.sl 7 0 0 n' c')), .a (.c (.p 3 0 0)), v15, .any, .any, .any, .any, .any, .any, .any, .any, .any, .any, .any, .any, .any, .any, .any, .any, .any, .any, .any, .any, .any, .any, .any, .any, .any, .any, .any, .any, .any, .any, .any, .any, .any, .any, .any, .any, .any, .any, .any, .any, .any, .any, .any, .any, .any, .any, .any, .any, .any, .any, .any, v67, v68, v69, .any, .any, .any, .any, .any, .any, .any, .any, .any, .any, .any, .any, .any, .any, .any, .any, .any, .any, .any, .any, .any, .any, .any, .any, v94, v95, v96, v97, v98, v99, v100, v101, v102, v103, .any, .any, .any, .any, .any, .any, .any, .any, .any, .any, .any, .any, .any, .any, .any, .any, .any, .any, .any, .any, .any, .any, .any, .any, .any, .any, .any, .any, .any, .any, .any, .any, .any, .any, .any, .any, .any, .any, .any, .any, .any, .any, .any, .any, .any, .any, .any, .any, .any, .any, .any, .any, .any, .any, .any, .any, .any, .any, .any, .any, .any, .any, .any, .any, .any, .any, .any, .any, .any, .any, .any, .any, .any, .any, .any, .any, .any, .any, .any, .any, .any, .any, .any, .any, .any, .any, .any, .any, .any, .any, .any, .any, .any, .any, .any, .any, .any, .any, .any, .any, .any, .any, .any, .any, .any, .any, .any, .any, .any], [[.past W' ms'], pmR x a c, h2, wantC (wv b N 9) a x.s.l.length c, h4, h5, h6, [.row (scale c' (1 + 1)) f]]⟩) ?_ ?_; rotate_left
  · intro P key
    (repeat first | (refine And.intro ?_ ?_; first | exact rfl | ((exact fun h => absurd h (by first | decide)); intro yy; clear yy) | (rotate_left; (exact fun h => absurd h (by first | decide)); intro yy; clear yy) | decide | omega) | (with_reducible refine frc_bytesL (by first | omega | decide) ?_) | (with_reducible refine frc_bytesM (by first | omega | decide) ?_))
    refine call_same hFit [0] rfl (by (repeat first | exact trivial | refine ent1 ?_)) (by (repeat first | exact trivial | refine ent1 ?_)) (fun _ _ => trivial) ?_
    rintro y hs' ⟨rfl, rfl⟩
    (repeat first | (refine And.intro ?_ ?_; first | exact rfl | ((exact fun h => absurd h (by first | decide)); intro yy; clear yy) | (rotate_left; (exact fun h => absurd h (by first | decide)); intro yy; clear yy) | decide | omega) | (with_reducible refine frc_bytesL (by first | omega | decide) ?_) | (with_reducible refine frc_bytesM (by first | omega | decide) ?_))
    refine call_same (fn_lpnumsR x hxA) [0] rfl (by (repeat first | exact trivial | refine ent1 ?_)) (by (repeat first | exact trivial | refine ent1 ?_)) (fun _ _ => trivial) ?_
    rintro y hs' ⟨rfl, rfl⟩
    refine .inr ⟨0, World × List Nat × Nat × Option ((Nat → SC) × Nat), fun x' => match x' with
      | (W', ms', i, none) => ⟨[.any, .a (.c (.slc aO os.length cO)), .a (.c (.w16 (skip))), .a (.c (.slc aB other.length cB)), .a (.c (.w64 (id))), .any, .any, .any, .any, .any, .any, .a (.c (.p 1 0 0)), .a (.c (.sl 2 0 0 9 9)), .a (.c (.slc none 0 0)), .a (.c (.p 3 0 0)), .a (.c (.sl 4 0 0 9 9)), .any, .any, .any, .any, .any, .any, .any, .any, .any, .any, .any, .any, .any, .any, .any, .any, .any, .any, .any, .any, .any, .any, .any, .any, .any, .any, .any, .any, .any, .any, .any, .any, .any, .any, .any, .any, .any, .any, .any, .any, .any, .any, .any, .any, .any, .any, .any, .any, .any, .any, .any, .a (.agg [.row 9 (numsF (nineL x))]), .a (.c (.int .i64 (↑i))), .any, .any, .any, .any, .any, .any, .any, .any, .any, .any, .any, .any, .any, .any, .any, .any, .any, .any, .any, .any, .any, .any, .any, .any, .any, .any, .any, .any, .any, .any, .any, .any, .any, .any, .any, .any, .any, .any, .any, .any, .any, .any, .any, .any, .any, .any, .any, .any, .any, .any, .any, .any, .any, .any, .any, .any, .any, .any, .any, .any, .any, .any, .any, .any, .any, .any, .any, .any, .any, .any, .any, .any, .any, .any, .any, .any, .any, .any, .any, .any, .any, .any, .any, .any, .any, .any, .any, .any, .any, .any, .any, .any, .any, .any, .any, .any, .any, .any, .any, .any, .any, .any, .any, .any, .any, .any, .any, .any, .any, .any, .any, .any, .any, .any, .any, .any, .any, .any, .any, .any, .any, .any, .any, .any, .any, .any, .any, .any, .any, .any, .any, .any, .any, .any, .any, .any, .any, .any, .any, .any, .any, .any, .any, .any], [[.past W' ms'], pmR x a c, [.row 9 (numsF ids9L)], wantC (wv b N i) a x.s.l.length c, [.row 9 (nthC (ptr9 3))], pmR p a c]⟩
      | (W', ms', i, some (f, cL)) => ⟨[.any, .a (.c (.slc aO os.length cO)), .a (.c (.w16 (skip))), .a (.c (.slc aB other.length cB)), .a (.c (.w64 (id))), .any, .any, .any, .any, .any, .any, .a (.c (.p 1 0 0)), .a (.c (.sl 2 0 0 9 9)), .a (.c (.sl 5 0 0 (itemsK b N i).length cL)), .a (.c (.p 3 0 0)), .a (.c (.sl 4 0 0 9 9)), .any, .any, .any, .any, .any, .any, .any, .any, .any, .any, .any, .any, .any, .any, .any, .any, .any, .any, .any, .any, .any, .any, .any, .any, .any, .any, .any, .any, .any, .any, .any, .any, .any, .any, .any, .any, .any, .any, .any, .any, .any, .any, .any, .any, .any, .any, .any, .any, .any, .any, .any, .a (.agg [.row 9 (numsF (nineL x))]), .a (.c (.int .i64 (↑i))), .any, .any, .any, .any, .any, .any, .any, .any, .any, .any, .any, .any, .any, .any, .any, .any, .any, .any, .any, .any, .any, .any, .any, .any, .any, .any, .any, .any, .any, .any, .any, .any, .any, .any, .any, .any, .any, .any, .any, .any, .any, .any, .any, .any, .any, .any, .any, .any, .any, .any, .any, .any, .any, .any, .any, .any, .any, .any, .any, .any, .any, .any, .any, .any, .any, .any, .any, .any, .any, .any, .any, .any, .any, .any, .any, .any, .any, .any, .any, .any, .any, .any, .any, .any, .any, .any, .any, .any, .any, .any, .any, .any, .any, .any, .any, .any, .any, .any, .any, .any, .any, .any, .any, .any, .any, .any, .any, .any, .any, .any, .any, .any, .any, .any, .any, .any, .any, .any, .any, .any, .any, .any, .any, .any, .any, .any, .any, .any, .any, .any, .any, .any, .any, .any, .any, .any, .any, .any, .any, .any, .any, .any, .any, .any], [[.past W' ms'], pmR x a c, [.row 9 (numsF ids9L)], wantC (wv b N i) a x.s.l.length c, [.row 9 (nthC (ptr9 3))], [.row (scale cL (1 + 1)) f]]⟩,
      fun x' => match x' with
      | (W', ms', i, none) => Later W ms W' ms' ∧ i ≤ 9 ∧ itemsK b N i = []
      | (W', ms', i, some (f, cL)) => Later W ms W' ms' ∧ i ≤ 9 ∧ ItF W' ms' f (itemsK b N i) ∧ (itemsK b N i).length ≤ cL ∧ (∀ j, (f j).raw = f j), fun x' => 9 - x'.2.2.1, entW_ofI ⟨(W, ms, 0, none), [0, 2, 3, 4, 5, 1], ⟨⟨rfl, rfl, rfl⟩, ?_⟩, ⟨Later.refl _ _, Nat.zero_le _, rfl⟩⟩, fun x' hp => ?_⟩
    · (repeat first | exact trivial | refine ent1 ?_)
      refine ⟨fun j _ => eqC_numsM, ?_⟩
      (repeat first | exact trivial | refine ent1 ?_)
      refine ⟨fun j _ => eqC_nums (numsN rfl) j, ?_⟩
      (repeat first | exact trivial | refine ent1 ?_)
      refine ⟨fun j hj => ?_, ?_⟩
      · have hj : j = 0 ∨ j = 1 ∨ j = 2 ∨ j = 3 ∨ j = 4 ∨ j = 5 ∨ j = 6 ∨ j = 7 ∨ j = 8 := by omega
        rcases hj with rfl | rfl | rfl | rfl | rfl | rfl | rfl | rfl | rfl <;> (repeat first | exact trivial | refine ent1 ?_)
      (repeat first | exact trivial | refine ent1 ?_)
    obtain ⟨W', ms', i, _ | ⟨f, cL⟩⟩ := x'
    · obtain ⟨hL0, hi, hIe⟩ := hp
      have hil := itemsK_len (b := b) (N := N) (k := i)
      refine And.intro (fun hlt => ?_) (fun hge => ?_)
      · have hlt : i < 9 := by have : (i : Int) < (9 : Int) := of_decide_eq_true hlt; omega
        have hn' : (nineL x)[((i : Nat) : Int).toNat + 0]? = some (N i) := hNj i hlt
        have eb : decide ((skip >>> ((i : Nat) : Int).toNat) &&& 1#16 = 0#16) = b i := by rw [hb]; rfl
        (repeat first | (refine And.intro ?_ ?_; first | exact rfl | ((exact fun h => absurd h (by first | decide)); intro yy; clear yy) | (rotate_left; (exact fun h => absurd h (by first | decide)); intro yy; clear yy) | decide | omega) | (with_reducible refine frc_bytesL (by first | omega | decide) ?_) | (with_reducible refine frc_bytesM (by first | omega | decide) ?_))
        with_reducible refine frc_nums hn' ?_
        cases hbi : b i with
        | false =>
          rw [hbi] at eb
          (repeat first | (refine And.intro ?_ ?_; first | exact rfl | ((exact fun h => absurd h (by first | decide | (rw [eb]; decide))); intro yy; clear yy) | (rotate_left; (exact fun h => absurd h (by first | decide | (rw [eb]; decide))); intro yy; clear yy) | decide | omega) | (with_reducible refine frc_bytesL (by first | omega | decide) ?_) | (with_reducible refine frc_bytesM (by first | omega | decide) ?_))
          refine entW_ofI ⟨(W', ms', i + 1, none), [0, 1, 2, 3, 4, 5], ⟨⟨rfl, rfl, rfl⟩, ?_⟩, ⟨⟨hL0, by omega, by rw [itemsK_f hbi]; exact hIe⟩, (show 9 - (i + 1) < 9 - i by omega)⟩⟩
          (repeat first | exact trivial | refine ent1 ?_)
          refine ⟨fun j _ => eqC_numsS, ?_⟩
          (repeat first | exact trivial | refine ent1 ?_)
          refine ⟨fun j _ => eqC_numsS, ?_⟩
          (repeat first | exact trivial | refine ent1 ?_)
          refine ⟨wv_skip hbi, wv_skip hbi, wv_skip hbi, wv_skip hbi, wv_skip hbi, wv_skip hbi, wv_skip hbi, wv_skip hbi, wv_skip hbi, ?_⟩
          (repeat first | exact trivial | refine ent1 ?_)
          refine ⟨fun j hj => ?_, ?_⟩
          · have hj : j = 0 ∨ j = 1 ∨ j = 2 ∨ j = 3 ∨ j = 4 ∨ j = 5 ∨ j = 6 ∨ j = 7 ∨ j = 8 := by omega
            rcases hj with rfl | rfl | rfl | rfl | rfl | rfl | rfl | rfl | rfl <;> (repeat first | exact trivial | refine ent1 ?_)
          (repeat first | exact trivial | refine ent1 ?_)
        | true =>
          rw [hbi] at eb
          (repeat first | (refine And.intro ?_ ?_; first | exact rfl | ((exact fun h => absurd h (by first | decide | (rw [eb]; decide))); intro yy; clear yy) | (rotate_left; (exact fun h => absurd h (by first | decide | (rw [eb]; decide))); intro yy; clear yy) | decide | omega) | (with_reducible refine frc_bytesL (by first | omega | decide) ?_) | (with_reducible refine frc_bytesM (by first | omega | decide) ?_))
          refine ⟨some [2], [], [(0, true), (1, true), (2, true), (3, true), (4, true), (5, true), (6, false), (7, true), (8, false)], [9, 10], by kernel_rfl, ?_⟩
          have hn2 : ids9L[((i : Nat) : Int).toNat + 0]? = some (idI i) := ids_j hlt
          (repeat first | (refine And.intro ?_ ?_; first | exact rfl | ((exact fun h => absurd h (by first | decide | (rw [eb]; decide))); intro yy; clear yy) | (rotate_left; (exact fun h => absurd h (by first | decide | (rw [eb]; decide))); intro yy; clear yy) | decide | omega) | (with_reducible refine frc_bytesL (by first | omega | decide) ?_) | (with_reducible refine frc_bytesM (by first | omega | decide) ?_))
          with_reducible refine frc_nums hn2 ?_
          (repeat first | (refine And.intro ?_ ?_; first | exact rfl | ((exact fun h => absurd h (by first | decide | (rw [eb]; decide))); intro yy; clear yy) | (rotate_left; (exact fun h => absurd h (by first | decide | (rw [eb]; decide))); intro yy; clear yy) | decide | omega) | (with_reducible refine frc_bytesL (by first | omega | decide) ?_) | (with_reducible refine frc_bytesM (by first | omega | decide) ?_))
          refine call_same (fn_qput (N i) (hNl i hlt)) [] rfl (by (repeat first | exact trivial | refine ent1 ?_)) trivial (fun _ _ => trivial) ?_
          rintro y hs' ⟨c1, hc1, rfl, rfl⟩
          have hpl := putL_len (N i)
          have hp8 := lenN_le (N i)
          (repeat first | (refine And.intro ?_ ?_; first | exact rfl | ((exact fun h => absurd h (by first | decide | (rw [eb]; decide))); intro yy; clear yy) | (rotate_left; (exact fun h => absurd h (by first | decide | (rw [eb]; decide))); intro yy; clear yy) | decide | omega) | (with_reducible refine frc_bytesL (by first | omega | decide) ?_) | (with_reducible refine frc_bytesM (by first | omega | decide) ?_))
          refine And.intro (show 0 + 2 ≤ 2 by decide) ?_
          (repeat first | (refine And.intro ?_ ?_; first | exact rfl | ((exact fun h => absurd h (by first | decide | (rw [eb]; decide))); intro yy; clear yy) | (rotate_left; (exact fun h => absurd h (by first | decide | (rw [eb]; decide))); intro yy; clear yy) | decide | omega) | (with_reducible refine frc_bytesL (by first | omega | decide) ?_) | (with_reducible refine frc_bytesM (by first | omega | decide) ?_))
          intro c9 hc9
          (repeat first | (refine And.intro ?_ ?_; first | exact rfl | ((exact fun h => absurd h (by first | decide | (rw [eb]; decide))); intro yy; clear yy) | (rotate_left; (exact fun h => absurd h (by first | decide | (rw [eb]; decide))); intro yy; clear yy) | decide | omega) | (with_reducible refine frc_bytesL (by first | omega | decide) ?_) | (with_reducible refine frc_bytesM (by first | omega | decide) ?_))
          have hN8 : (putL (N i)).length ≤ 9223372036854775807 := by omega
          have hi9 : i = 0 ∨ i = 1 ∨ i = 2 ∨ i = 3 ∨ i = 4 ∨ i = 5 ∨ i = 6 ∨ i = 7 ∨ i = 8 := by omega
          rcases hi9 with hk | hk | hk | hk | hk | hk | hk | hk | hk
          · refine frc_atI (y := .p 3 0 0) (by subst hk; rfl) ?_
            (repeat first | (refine And.intro ?_ ?_; first | exact rfl | ((exact fun h => absurd h (by first | decide | (rw [eb]; decide))); intro yy; clear yy) | (rotate_left; (exact fun h => absurd h (by first | decide | (rw [eb]; decide))); intro yy; clear yy) | decide | omega) | (with_reducible refine frc_bytesL (by first | omega | decide) ?_) | (with_reducible refine frc_bytesM (by first | omega | decide) ?_))
            refine entW_frz [0, 1, 2, 3, 4, 8] rfl Nat.zero_lt_one cx0_m rfl (fun W2 ms2 α hL hI => ?_)
            have hput : BsAt W2 ms2 (some ((α 6).add (0 + 0))) (putL (N i)).length c1 (putL (N i)) := frzB (F := fun j => !memB j [0, 1, 2, 3, 4, 8]) (hI 6 rfl) (fun j hj => by first | exact bytesF_lt hj | exact mp_row j hj) (by omega) hN8
            have hF2 : ItF W2 ms2 (snocF (fun _ => SC.any) 0 (idI i) ⟨some ((α 6).add (0 + 0)), (putL (N i)).length, c1⟩) (itemsK b N (i + 1)) := by
              rw [itemsK_t hbi]
              rw [hIe]; exact ItF.nil.snoc rfl (idI i) hput
            refine ⟨(W2, ms2, i + 1, some (snocF (fun _ => SC.any) 0 (idI i) ⟨some ((α 6).add (0 + 0)), (putL (N i)).length, c1⟩, c9)), _, _, ?_, rfl, ⟨hL0.trans hL, by omega, hF2, (by rw [itemsK_t hbi, hIe]; exact hc9), snoc_raw (fun j _ => rfl)⟩, (show 9 - (i + 1) < 9 - i by omega)⟩
            refine ⟨⟨rfl, rfl, rfl⟩, ?_⟩
            (repeat first | exact trivial | refine ent1 ?_)
            refine And.intro (show 1 = (itemsK b N (i + 1)).length by rw [itemsK_t hbi, List.length_append, hIe]; rfl) ?_
            (repeat first | exact trivial | refine ent1 ?_)
            refine ⟨fun j _ => by first | exact eqC_rm nums_raw | exact eqC_r nums_raw, ?_⟩
            (repeat first | exact trivial | refine ent1 ?_)
            refine ⟨fun j _ => by first | exact eqC_rm nums_raw | exact eqC_r nums_raw, ?_⟩
            (repeat first | exact trivial | refine ent1 ?_)
            refine ⟨(by subst hk; exact wv_eq hbi), wv_ne (by omega), wv_ne (by omega), wv_ne (by omega), wv_ne (by omega), wv_ne (by omega), wv_ne (by omega), wv_ne (by omega), wv_ne (by omega), ?_⟩
            (repeat first | exact trivial | refine ent1 ?_)
            refine ⟨fun j hj => ?_, ?_⟩
            · have hj : j = 0 ∨ j = 1 ∨ j = 2 ∨ j = 3 ∨ j = 4 ∨ j = 5 ∨ j = 6 ∨ j = 7 ∨ j = 8 := by omega
              rcases hj with rfl | rfl | rfl | rfl | rfl | rfl | rfl | rfl | rfl <;> (repeat first | exact trivial | refine ent1 ?_)
            (repeat first | exact trivial | refine ent1 ?_)
            refine ⟨fun j _ => new_snoc rfl rfl j, ?_⟩
            (repeat first | exact trivial | refine ent1 ?_)
          · refine frc_atI (y := .p 3 1 0) (by subst hk; rfl) ?_
            (repeat first | (refine And.intro ?_ ?_; first | exact rfl | ((exact fun h => absurd h (by first | decide | (rw [eb]; decide))); intro yy; clear yy) | (rotate_left; (exact fun h => absurd h (by first | decide | (rw [eb]; decide))); intro yy; clear yy) | decide | omega) | (with_reducible refine frc_bytesL (by first | omega | decide) ?_) | (with_reducible refine frc_bytesM (by first | omega | decide) ?_))
            refine entW_frz [0, 1, 2, 3, 4, 8] rfl Nat.zero_lt_one cx0_m rfl (fun W2 ms2 α hL hI => ?_)
            have hput : BsAt W2 ms2 (some ((α 6).add (0 + 0))) (putL (N i)).length c1 (putL (N i)) := frzB (F := fun j => !memB j [0, 1, 2, 3, 4, 8]) (hI 6 rfl) (fun j hj => by first | exact bytesF_lt hj | exact mp_row j hj) (by omega) hN8
            have hF2 : ItF W2 ms2 (snocF (fun _ => SC.any) 0 (idI i) ⟨some ((α 6).add (0 + 0)), (putL (N i)).length, c1⟩) (itemsK b N (i + 1)) := by
              rw [itemsK_t hbi]
              rw [hIe]; exact ItF.nil.snoc rfl (idI i) hput
            refine ⟨(W2, ms2, i + 1, some (snocF (fun _ => SC.any) 0 (idI i) ⟨some ((α 6).add (0 + 0)), (putL (N i)).length, c1⟩, c9)), _, _, ?_, rfl, ⟨hL0.trans hL, by omega, hF2, (by rw [itemsK_t hbi, hIe]; exact hc9), snoc_raw (fun j _ => rfl)⟩, (show 9 - (i + 1) < 9 - i by omega)⟩
            refine ⟨⟨rfl, rfl, rfl⟩, ?_⟩
            (repeat first | exact trivial | refine ent1 ?_)
            refine And.intro (show 1 = (itemsK b N (i + 1)).length by rw [itemsK_t hbi, List.length_append, hIe]; rfl) ?_
            (repeat first | exact trivial | refine ent1 ?_)
            refine ⟨fun j _ => by first | exact eqC_rm nums_raw | exact eqC_r nums_raw, ?_⟩
            (repeat first | exact trivial | refine ent1 ?_)
            refine ⟨fun j _ => by first | exact eqC_rm nums_raw | exact eqC_r nums_raw, ?_⟩
            (repeat first | exact trivial | refine ent1 ?_)
            refine ⟨wv_ne (by omega), (by subst hk; exact wv_eq hbi), wv_ne (by omega), wv_ne (by omega), wv_ne (by omega), wv_ne (by omega), wv_ne (by omega), wv_ne (by omega), wv_ne (by omega), ?_⟩
            (repeat first | exact trivial | refine ent1 ?_)
            refine ⟨fun j hj => ?_, ?_⟩
            · have hj : j = 0 ∨ j = 1 ∨ j = 2 ∨ j = 3 ∨ j = 4 ∨ j = 5 ∨ j = 6 ∨ j = 7 ∨ j = 8 := by omega
              rcases hj with rfl | rfl | rfl | rfl | rfl | rfl | rfl | rfl | rfl <;> (repeat first | exact trivial | refine ent1 ?_)
            (repeat first | exact trivial | refine ent1 ?_)
            refine ⟨fun j _ => new_snoc rfl rfl j, ?_⟩
            (repeat first | exact trivial | refine ent1 ?_)
          · refine frc_atI (y := .p 3 2 0) (by subst hk; rfl) ?_
            (repeat first | (refine And.intro ?_ ?_; first | exact rfl | ((exact fun h => absurd h (by first | decide | (rw [eb]; decide))); intro yy; clear yy) | (rotate_left; (exact fun h => absurd h (by first | decide | (rw [eb]; decide))); intro yy; clear yy) | decide | omega) | (with_reducible refine frc_bytesL (by first | omega | decide) ?_) | (with_reducible refine frc_bytesM (by first | omega | decide) ?_))
            refine entW_frz [0, 1, 2, 3, 4, 8] rfl Nat.zero_lt_one cx0_m rfl (fun W2 ms2 α hL hI => ?_)
            have hput : BsAt W2 ms2 (some ((α 6).add (0 + 0))) (putL (N i)).length c1 (putL (N i)) := frzB (F := fun j => !memB j [0, 1, 2, 3, 4, 8]) (hI 6 rfl) (fun j hj => by first | exact bytesF_lt hj | exact mp_row j hj) (by omega) hN8
            have hF2 : ItF W2 ms2 (snocF (fun _ => SC.any) 0 (idI i) ⟨some ((α 6).add (0 + 0)), (putL (N i)).length, c1⟩) (itemsK b N (i + 1)) := by
              rw [itemsK_t hbi]
              rw [hIe]; exact ItF.nil.snoc rfl (idI i) hput
            refine ⟨(W2, ms2, i + 1, some (snocF (fun _ => SC.any) 0 (idI i) ⟨some ((α 6).add (0 + 0)), (putL (N i)).length, c1⟩, c9)), _, _, ?_, rfl, ⟨hL0.trans hL, by omega, hF2, (by rw [itemsK_t hbi, hIe]; exact hc9), snoc_raw (fun j _ => rfl)⟩, (show 9 - (i + 1) < 9 - i by omega)⟩
            refine ⟨⟨rfl, rfl, rfl⟩, ?_⟩
            (repeat first | exact trivial | refine ent1 ?_)
            refine And.intro (show 1 = (itemsK b N (i + 1)).length by rw [itemsK_t hbi, List.length_append, hIe]; rfl) ?_
            (repeat first | exact trivial | refine ent1 ?_)
            refine ⟨fun j _ => by first | exact eqC_rm nums_raw | exact eqC_r nums_raw, ?_⟩
            (repeat first | exact trivial | refine ent1 ?_)
            refine ⟨fun j _ => by first | exact eqC_rm nums_raw | exact eqC_r nums_raw, ?_⟩
            (repeat first | exact trivial | refine ent1 ?_)
            refine ⟨wv_ne (by omega), wv_ne (by omega), (by subst hk; exact wv_eq hbi), wv_ne (by omega), wv_ne (by omega), wv_ne (by omega), wv_ne (by omega), wv_ne (by omega), wv_ne (by omega), ?_⟩
            (repeat first | exact trivial | refine ent1 ?_)
            refine ⟨fun j hj => ?_, ?_⟩
            · have hj : j = 0 ∨ j = 1 ∨ j = 2 ∨ j = 3 ∨ j = 4 ∨ j = 5 ∨ j = 6 ∨ j = 7 ∨ j = 8 := by omega
              rcases hj with rfl | rfl | rfl | rfl | rfl | rfl | rfl | rfl | rfl <;> (repeat first | exact trivial | refine ent1 ?_)
            (repeat first | exact trivial | refine ent1 ?_)
            refine ⟨fun j _ => new_snoc rfl rfl j, ?_⟩
            (repeat first | exact trivial | refine ent1 ?_)
          · refine frc_atI (y := .p 3 3 0) (by subst hk; rfl) ?_
            (repeat first | (refine And.intro ?_ ?_; first | exact rfl | ((exact fun h => absurd h (by first | decide | (rw [eb]; decide))); intro yy; clear yy) | (rotate_left; (exact fun h => absurd h (by first | decide | (rw [eb]; decide))); intro yy; clear yy) | decide | omega) | (with_reducible refine frc_bytesL (by first | omega | decide) ?_) | (with_reducible refine frc_bytesM (by first | omega | decide) ?_))
            refine entW_frz [0, 1, 2, 3, 4, 8] rfl Nat.zero_lt_one cx0_m rfl (fun W2 ms2 α hL hI => ?_)
            have hput : BsAt W2 ms2 (some ((α 6).add (0 + 0))) (putL (N i)).length c1 (putL (N i)) := frzB (F := fun j => !memB j [0, 1, 2, 3, 4, 8]) (hI 6 rfl) (fun j hj => by first | exact bytesF_lt hj | exact mp_row j hj) (by omega) hN8
            have hF2 : ItF W2 ms2 (snocF (fun _ => SC.any) 0 (idI i) ⟨some ((α 6).add (0 + 0)), (putL (N i)).length, c1⟩) (itemsK b N (i + 1)) := by
              rw [itemsK_t hbi]
              rw [hIe]; exact ItF.nil.snoc rfl (idI i) hput
            refine ⟨(W2, ms2, i + 1, some (snocF (fun _ => SC.any) 0 (idI i) ⟨some ((α 6).add (0 + 0)), (putL (N i)).length, c1⟩, c9)), _, _, ?_, rfl, ⟨hL0.trans hL, by omega, hF2, (by rw [itemsK_t hbi, hIe]; exact hc9), snoc_raw (fun j _ => rfl)⟩, (show 9 - (i + 1) < 9 - i by omega)⟩
            refine ⟨⟨rfl, rfl, rfl⟩, ?_⟩
            (repeat first | exact trivial | refine ent1 ?_)
            refine And.intro (show 1 = (itemsK b N (i + 1)).length by rw [itemsK_t hbi, List.length_append, hIe]; rfl) ?_
            (repeat first | exact trivial | refine ent1 ?_)
            refine ⟨fun j _ => by first | exact eqC_rm nums_raw | exact eqC_r nums_raw, ?_⟩
            (repeat first | exact trivial | refine ent1 ?_)
            refine ⟨fun j _ => by first | exact eqC_rm nums_raw | exact eqC_r nums_raw, ?_⟩
            (repeat first | exact trivial | refine ent1 ?_)
            refine ⟨wv_ne (by omega), wv_ne (by omega), wv_ne (by omega), (by subst hk; exact wv_eq hbi), wv_ne (by omega), wv_ne (by omega), wv_ne (by omega), wv_ne (by omega), wv_ne (by omega), ?_⟩
            (repeat first | exact trivial | refine ent1 ?_)
            refine ⟨fun j hj => ?_, ?_⟩
            · have hj : j = 0 ∨ j = 1 ∨ j = 2 ∨ j = 3 ∨ j = 4 ∨ j = 5 ∨ j = 6 ∨ j = 7 ∨ j = 8 := by omega
              rcases hj with rfl | rfl | rfl | rfl | rfl | rfl | rfl | rfl | rfl <;> (repeat first | exact trivial | refine ent1 ?_)
            (repeat first | exact trivial | refine ent1 ?_)
            refine ⟨fun j _ => new_snoc rfl rfl j, ?_⟩
            (repeat first | exact trivial | refine ent1 ?_)
          · refine frc_atI (y := .p 3 4 0) (by subst hk; rfl) ?_
            (repeat first | (refine And.intro ?_ ?_; first | exact rfl | ((exact fun h => absurd h (by first | decide | (rw [eb]; decide))); intro yy; clear yy) | (rotate_left; (exact fun h => absurd h (by first | decide | (rw [eb]; decide))); intro yy; clear yy) | decide | omega) | (with_reducible refine frc_bytesL (by first | omega | decide) ?_) | (with_reducible refine frc_bytesM (by first | omega | decide) ?_))
            refine entW_frz [0, 1, 2, 3, 4, 8] rfl Nat.zero_lt_one cx0_m rfl (fun W2 ms2 α hL hI => ?_)
            have hput : BsAt W2 ms2 (some ((α 6).add (0 + 0))) (putL (N i)).length c1 (putL (N i)) := frzB (F := fun j => !memB j [0, 1, 2, 3, 4, 8]) (hI 6 rfl) (fun j hj => by first | exact bytesF_lt hj | exact mp_row j hj) (by omega) hN8
            have hF2 : ItF W2 ms2 (snocF (fun _ => SC.any) 0 (idI i) ⟨some ((α 6).add (0 + 0)), (putL (N i)).length, c1⟩) (itemsK b N (i + 1)) := by
              rw [itemsK_t hbi]
              rw [hIe]; exact ItF.nil.snoc rfl (idI i) hput
            refine ⟨(W2, ms2, i + 1, some (snocF (fun _ => SC.any) 0 (idI i) ⟨some ((α 6).add (0 + 0)), (putL (N i)).length, c1⟩, c9)), _, _, ?_, rfl, ⟨hL0.trans hL, by omega, hF2, (by rw [itemsK_t hbi, hIe]; exact hc9), snoc_raw (fun j _ => rfl)⟩, (show 9 - (i + 1) < 9 - i by omega)⟩
            refine ⟨⟨rfl, rfl, rfl⟩, ?_⟩
            (repeat first | exact trivial | refine ent1 ?_)
            refine And.intro (show 1 = (itemsK b N (i + 1)).length by rw [itemsK_t hbi, List.length_append, hIe]; rfl) ?_
            (repeat first | exact trivial | refine ent1 ?_)
            refine ⟨fun j _ => by first | exact eqC_rm nums_raw | exact eqC_r nums_raw, ?_⟩
            (repeat first | exact trivial | refine ent1 ?_)
            refine ⟨fun j _ => by first | exact eqC_rm nums_raw | exact eqC_r nums_raw, ?_⟩
            (repeat first | exact trivial | refine ent1 ?_)
            refine ⟨wv_ne (by omega), wv_ne (by omega), wv_ne (by omega), wv_ne (by omega), (by subst hk; exact wv_eq hbi), wv_ne (by omega), wv_ne (by omega), wv_ne (by omega), wv_ne (by omega), ?_⟩
            (repeat first | exact trivial | refine ent1 ?_)
            refine ⟨fun j hj => ?_, ?_⟩
            · have hj : j = 0 ∨ j = 1 ∨ j = 2 ∨ j = 3 ∨ j = 4 ∨ j = 5 ∨ j = 6 ∨ j = 7 ∨ j = 8 := by omega
              rcases hj with rfl | rfl | rfl | rfl | rfl | rfl | rfl | rfl | rfl <;> (repeat first | exact trivial | refine ent1 ?_)
            (repeat first | exact trivial | refine ent1 ?_)
            refine ⟨fun j _ => new_snoc rfl rfl j, ?_⟩
            (repeat first | exact trivial | refine ent1 ?_)
          · refine frc_atI (y := .p 3 5 0) (by subst hk; rfl) ?_
            (repeat first | (refine And.intro ?_ ?_; first | exact rfl | ((exact fun h => absurd h (by first | decide | (rw [eb]; decide))); intro yy; clear yy) | (rotate_left; (exact fun h => absurd h (by first | decide | (rw [eb]; decide))); intro yy; clear yy) | decide | omega) | (with_reducible refine frc_bytesL (by first | omega | decide) ?_) | (with_reducible refine frc_bytesM (by first | omega | decide) ?_))
            refine entW_frz [0, 1, 2, 3, 4, 8] rfl Nat.zero_lt_one cx0_m rfl (fun W2 ms2 α hL hI => ?_)
            have hput : BsAt W2 ms2 (some ((α 6).add (0 + 0))) (putL (N i)).length c1 (putL (N i)) := frzB (F := fun j => !memB j [0, 1, 2, 3, 4, 8]) (hI 6 rfl) (fun j hj => by first | exact bytesF_lt hj | exact mp_row j hj) (by omega) hN8
            have hF2 : ItF W2 ms2 (snocF (fun _ => SC.any) 0 (idI i) ⟨some ((α 6).add (0 + 0)), (putL (N i)).length, c1⟩) (itemsK b N (i + 1)) := by
              rw [itemsK_t hbi]
              rw [hIe]; exact ItF.nil.snoc rfl (idI i) hput
            refine ⟨(W2, ms2, i + 1, some (snocF (fun _ => SC.any) 0 (idI i) ⟨some ((α 6).add (0 + 0)), (putL (N i)).length, c1⟩, c9)), _, _, ?_, rfl, ⟨hL0.trans hL, by omega, hF2, (by rw [itemsK_t hbi, hIe]; exact hc9), snoc_raw (fun j _ => rfl)⟩, (show 9 - (i + 1) < 9 - i by omega)⟩
            refine ⟨⟨rfl, rfl, rfl⟩, ?_⟩
            (repeat first | exact trivial | refine ent1 ?_)
            refine And.intro (show 1 = (itemsK b N (i + 1)).length by rw [itemsK_t hbi, List.length_append, hIe]; rfl) ?_
            (repeat first | exact trivial | refine ent1 ?_)
            refine ⟨fun j _ => by first | exact eqC_rm nums_raw | exact eqC_r nums_raw, ?_⟩
            (repeat first | exact trivial | refine ent1 ?_)
            refine ⟨fun j _ => by first | exact eqC_rm nums_raw | exact eqC_r nums_raw, ?_⟩
            (repeat first | exact trivial | refine ent1 ?_)
            refine ⟨wv_ne (by omega), wv_ne (by omega), wv_ne (by omega), wv_ne (by omega), wv_ne (by omega), (by subst hk; exact wv_eq hbi), wv_ne (by omega), wv_ne (by omega), wv_ne (by omega), ?_⟩
            (repeat first | exact trivial | refine ent1 ?_)
            refine ⟨fun j hj => ?_, ?_⟩
            · have hj : j = 0 ∨ j = 1 ∨ j = 2 ∨ j = 3 ∨ j = 4 ∨ j = 5 ∨ j = 6 ∨ j = 7 ∨ j = 8 := by omega
              rcases hj with rfl | rfl | rfl | rfl | rfl | rfl | rfl | rfl | rfl <;> (repeat first | exact trivial | refine ent1 ?_)
            (repeat first | exact trivial | refine ent1 ?_)
            refine ⟨fun j _ => new_snoc rfl rfl j, ?_⟩
            (repeat first | exact trivial | refine ent1 ?_)
          · refine frc_atI (y := .p 3 6 0) (by subst hk; rfl) ?_
            (repeat first | (refine And.intro ?_ ?_; first | exact rfl | ((exact fun h => absurd h (by first | decide | (rw [eb]; decide))); intro yy; clear yy) | (rotate_left; (exact fun h => absurd h (by first | decide | (rw [eb]; decide))); intro yy; clear yy) | decide | omega) | (with_reducible refine frc_bytesL (by first | omega | decide) ?_) | (with_reducible refine frc_bytesM (by first | omega | decide) ?_))
            refine entW_frz [0, 1, 2, 3, 4, 8] rfl Nat.zero_lt_one cx0_m rfl (fun W2 ms2 α hL hI => ?_)
            have hput : BsAt W2 ms2 (some ((α 6).add (0 + 0))) (putL (N i)).length c1 (putL (N i)) := frzB (F := fun j => !memB j [0, 1, 2, 3, 4, 8]) (hI 6 rfl) (fun j hj => by first | exact bytesF_lt hj | exact mp_row j hj) (by omega) hN8
            have hF2 : ItF W2 ms2 (snocF (fun _ => SC.any) 0 (idI i) ⟨some ((α 6).add (0 + 0)), (putL (N i)).length, c1⟩) (itemsK b N (i + 1)) := by
              rw [itemsK_t hbi]
              rw [hIe]; exact ItF.nil.snoc rfl (idI i) hput
            refine ⟨(W2, ms2, i + 1, some (snocF (fun _ => SC.any) 0 (idI i) ⟨some ((α 6).add (0 + 0)), (putL (N i)).length, c1⟩, c9)), _, _, ?_, rfl, ⟨hL0.trans hL, by omega, hF2, (by rw [itemsK_t hbi, hIe]; exact hc9), snoc_raw (fun j _ => rfl)⟩, (show 9 - (i + 1) < 9 - i by omega)⟩
            refine ⟨⟨rfl, rfl, rfl⟩, ?_⟩
            (repeat first | exact trivial | refine ent1 ?_)
            refine And.intro (show 1 = (itemsK b N (i + 1)).length by rw [itemsK_t hbi, List.length_append, hIe]; rfl) ?_
            (repeat first | exact trivial | refine ent1 ?_)
            refine ⟨fun j _ => by first | exact eqC_rm nums_raw | exact eqC_r nums_raw, ?_⟩
            (repeat first | exact trivial | refine ent1 ?_)
            refine ⟨fun j _ => by first | exact eqC_rm nums_raw | exact eqC_r nums_raw, ?_⟩
            (repeat first | exact trivial | refine ent1 ?_)
            refine ⟨wv_ne (by omega), wv_ne (by omega), wv_ne (by omega), wv_ne (by omega), wv_ne (by omega), wv_ne (by omega), (by subst hk; exact wv_eq hbi), wv_ne (by omega), wv_ne (by omega), ?_⟩
            (repeat first | exact trivial | refine ent1 ?_)
            refine ⟨fun j hj => ?_, ?_⟩
            · have hj : j = 0 ∨ j = 1 ∨ j = 2 ∨ j = 3 ∨ j = 4 ∨ j = 5 ∨ j = 6 ∨ j = 7 ∨ j = 8 := by omega
              rcases hj with rfl | rfl | rfl | rfl | rfl | rfl | rfl | rfl | rfl <;> (repeat first | exact trivial | refine ent1 ?_)
            (repeat first | exact trivial | refine ent1 ?_)
            refine ⟨fun j _ => new_snoc rfl rfl j, ?_⟩
            (repeat first | exact trivial | refine ent1 ?_)
          · refine frc_atI (y := .p 3 7 0) (by subst hk; rfl) ?_
            (repeat first | (refine And.intro ?_ ?_; first | exact rfl | ((exact fun h => absurd h (by first | decide | (rw [eb]; decide))); intro yy; clear yy) | (rotate_left; (exact fun h => absurd h (by first | decide | (rw [eb]; decide))); intro yy; clear yy) | decide | omega) | (with_reducible refine frc_bytesL (by first | omega | decide) ?_) | (with_reducible refine frc_bytesM (by first | omega | decide) ?_))
            refine entW_frz [0, 1, 2, 3, 4, 8] rfl Nat.zero_lt_one cx0_m rfl (fun W2 ms2 α hL hI => ?_)
            have hput : BsAt W2 ms2 (some ((α 6).add (0 + 0))) (putL (N i)).length c1 (putL (N i)) := frzB (F := fun j => !memB j [0, 1, 2, 3, 4, 8]) (hI 6 rfl) (fun j hj => by first | exact bytesF_lt hj | exact mp_row j hj) (by omega) hN8
            have hF2 : ItF W2 ms2 (snocF (fun _ => SC.any) 0 (idI i) ⟨some ((α 6).add (0 + 0)), (putL (N i)).length, c1⟩) (itemsK b N (i + 1)) := by
              rw [itemsK_t hbi]
              rw [hIe]; exact ItF.nil.snoc rfl (idI i) hput
            refine ⟨(W2, ms2, i + 1, some (snocF (fun _ => SC.any) 0 (idI i) ⟨some ((α 6).add (0 + 0)), (putL (N i)).length, c1⟩, c9)), _, _, ?_, rfl, ⟨hL0.trans hL, by omega, hF2, (by rw [itemsK_t hbi, hIe]; exact hc9), snoc_raw (fun j _ => rfl)⟩, (show 9 - (i + 1) < 9 - i by omega)⟩
            refine ⟨⟨rfl, rfl, rfl⟩, ?_⟩
            (repeat first | exact trivial | refine ent1 ?_)
            refine And.intro (show 1 = (itemsK b N (i + 1)).length by rw [itemsK_t hbi, List.length_append, hIe]; rfl) ?_
            (repeat first | exact trivial | refine ent1 ?_)
            refine ⟨fun j _ => by first | exact eqC_rm nums_raw | exact eqC_r nums_raw, ?_⟩
            (repeat first | exact trivial | refine ent1 ?_)
            refine ⟨fun j _ => by first | exact eqC_rm nums_raw | exact eqC_r nums_raw, ?_⟩
            (repeat first | exact trivial | refine ent1 ?_)
            refine ⟨wv_ne (by omega), wv_ne (by omega), wv_ne (by omega), wv_ne (by omega), wv_ne (by omega), wv_ne (by omega), wv_ne (by omega), (by subst hk; exact wv_eq hbi), wv_ne (by omega), ?_⟩
            (repeat first | exact trivial | refine ent1 ?_)
            refine ⟨fun j hj => ?_, ?_⟩
            · have hj : j = 0 ∨ j = 1 ∨ j = 2 ∨ j = 3 ∨ j = 4 ∨ j = 5 ∨ j = 6 ∨ j = 7 ∨ j = 8 := by omega
              rcases hj with rfl | rfl | rfl | rfl | rfl | rfl | rfl | rfl | rfl <;> (repeat first | exact trivial | refine ent1 ?_)
            (repeat first | exact trivial | refine ent1 ?_)
            refine ⟨fun j _ => new_snoc rfl rfl j, ?_⟩
            (repeat first | exact trivial | refine ent1 ?_)
          · refine frc_atI (y := .p 3 8 0) (by subst hk; rfl) ?_
            (repeat first | (refine And.intro ?_ ?_; first | exact rfl | ((exact fun h => absurd h (by first | decide | (rw [eb]; decide))); intro yy; clear yy) | (rotate_left; (exact fun h => absurd h (by first | decide | (rw [eb]; decide))); intro yy; clear yy) | decide | omega) | (with_reducible refine frc_bytesL (by first | omega | decide) ?_) | (with_reducible refine frc_bytesM (by first | omega | decide) ?_))
            refine entW_frz [0, 1, 2, 3, 4, 8] rfl Nat.zero_lt_one cx0_m rfl (fun W2 ms2 α hL hI => ?_)
            have hput : BsAt W2 ms2 (some ((α 6).add (0 + 0))) (putL (N i)).length c1 (putL (N i)) := frzB (F := fun j => !memB j [0, 1, 2, 3, 4, 8]) (hI 6 rfl) (fun j hj => by first | exact bytesF_lt hj | exact mp_row j hj) (by omega) hN8
            have hF2 : ItF W2 ms2 (snocF (fun _ => SC.any) 0 (idI i) ⟨some ((α 6).add (0 + 0)), (putL (N i)).length, c1⟩) (itemsK b N (i + 1)) := by
              rw [itemsK_t hbi]
              rw [hIe]; exact ItF.nil.snoc rfl (idI i) hput
            refine ⟨(W2, ms2, i + 1, some (snocF (fun _ => SC.any) 0 (idI i) ⟨some ((α 6).add (0 + 0)), (putL (N i)).length, c1⟩, c9)), _, _, ?_, rfl, ⟨hL0.trans hL, by omega, hF2, (by rw [itemsK_t hbi, hIe]; exact hc9), snoc_raw (fun j _ => rfl)⟩, (show 9 - (i + 1) < 9 - i by omega)⟩
            refine ⟨⟨rfl, rfl, rfl⟩, ?_⟩
            (repeat first | exact trivial | refine ent1 ?_)
            refine And.intro (show 1 = (itemsK b N (i + 1)).length by rw [itemsK_t hbi, List.length_append, hIe]; rfl) ?_
            (repeat first | exact trivial | refine ent1 ?_)
            refine ⟨fun j _ => by first | exact eqC_rm nums_raw | exact eqC_r nums_raw, ?_⟩
            (repeat first | exact trivial | refine ent1 ?_)
            refine ⟨fun j _ => by first | exact eqC_rm nums_raw | exact eqC_r nums_raw, ?_⟩
            (repeat first | exact trivial | refine ent1 ?_)
            refine ⟨wv_ne (by omega), wv_ne (by omega), wv_ne (by omega), wv_ne (by omega), wv_ne (by omega), wv_ne (by omega), wv_ne (by omega), wv_ne (by omega), (by subst hk; exact wv_eq hbi), ?_⟩
            (repeat first | exact trivial | refine ent1 ?_)
            refine ⟨fun j hj => ?_, ?_⟩
            · have hj : j = 0 ∨ j = 1 ∨ j = 2 ∨ j = 3 ∨ j = 4 ∨ j = 5 ∨ j = 6 ∨ j = 7 ∨ j = 8 := by omega
              rcases hj with rfl | rfl | rfl | rfl | rfl | rfl | rfl | rfl | rfl <;> (repeat first | exact trivial | refine ent1 ?_)
            (repeat first | exact trivial | refine ent1 ?_)
            refine ⟨fun j _ => new_snoc rfl rfl j, ?_⟩
            (repeat first | exact trivial | refine ent1 ?_)
      · have hge : i = 9 := by have : ¬ (i : Int) < (9 : Int) := of_decide_eq_false hge; omega
        subst hge
        (repeat first | (refine And.intro ?_ ?_; first | exact rfl | ((exact fun h => absurd h (by first | decide)); intro yy; clear yy) | (rotate_left; (exact fun h => absurd h (by first | decide)); intro yy; clear yy) | decide | omega) | (with_reducible refine frc_bytesL (by first | omega | decide) ?_) | (with_reducible refine frc_bytesM (by first | omega | decide) ?_))
        refine And.intro (show 0 + 2 ≤ 4 by decide) ?_
        (repeat first | (refine And.intro ?_ ?_; first | exact rfl | ((exact fun h => absurd h (by first | decide)); intro yy; clear yy) | (rotate_left; (exact fun h => absurd h (by first | decide)); intro yy; clear yy) | decide | omega) | (with_reducible refine frc_bytesL (by first | omega | decide) ?_) | (with_reducible refine frc_bytesM (by first | omega | decide) ?_))
        refine And.intro (show 2 + 2 ≤ 4 by decide) ?_
        (repeat first | (refine And.intro ?_ ?_; first | exact rfl | ((exact fun h => absurd h (by first | decide)); intro yy; clear yy) | (rotate_left; (exact fun h => absurd h (by first | decide)); intro yy; clear yy) | decide | omega) | (with_reducible refine frc_bytesL (by first | omega | decide) ?_) | (with_reducible refine frc_bytesM (by first | omega | decide) ?_))
        intro c9 hc9
        have hF2 : ItF W' ms' (snocF (snocF (fun _ => SC.any) 0 15#64 ⟨a, x.s.l.length, c⟩) (0 + 1) (100#64 + id) ⟨aB, other.length, cB⟩) I0 := by
          have hxA2 := hxA.later hL0
          have hB2 := hB.later hL0
          have := ((ItF.nil (W := W') (ms := ms') (f := fun _ => SC.any)).snoc rfl 15#64 hxA2).snoc (List.length_append ..) (100#64 + id) hB2
          rw [List.append_assoc] at this
          rw [hI0]; unfold items0; rw [hIe]; exact this
        exact key W' ms' _ 2 c9 _ _ _ _ _ _ _ _ _ _ _ _ _ _ _ _ _ _ _ hL0 ⟨_, hF2, snoc_raw (fun j _ => snoc_raw (fun j hj => absurd hj (by omega)) j), fun q j => new_snoc2 rfl rfl rfl rfl q j⟩ (by rw [hI0]; unfold items0; rw [List.length_append, hIe]; rfl) hc9
    · obtain ⟨hL0, hi, hF, hc0, hraw⟩ := hp
      have hil := itemsK_len (b := b) (N := N) (k := i)
      refine And.intro (fun hlt => ?_) (fun hge => ?_)
      · have hlt : i < 9 := by have : (i : Int) < (9 : Int) := of_decide_eq_true hlt; omega
        have hn' : (nineL x)[((i : Nat) : Int).toNat + 0]? = some (N i) := hNj i hlt
        have eb : decide ((skip >>> ((i : Nat) : Int).toNat) &&& 1#16 = 0#16) = b i := by rw [hb]; rfl
        (repeat first | (refine And.intro ?_ ?_; first | exact rfl | ((exact fun h => absurd h (by first | decide)); intro yy; clear yy) | (rotate_left; (exact fun h => absurd h (by first | decide)); intro yy; clear yy) | decide | omega) | (with_reducible refine frc_bytesL (by first | omega | decide) ?_) | (with_reducible refine frc_bytesM (by first | omega | decide) ?_))
        with_reducible refine frc_nums hn' ?_
        cases hbi : b i with
        | false =>
          rw [hbi] at eb
          (repeat first | (refine And.intro ?_ ?_; first | exact rfl | ((exact fun h => absurd h (by first | decide | (rw [eb]; decide))); intro yy; clear yy) | (rotate_left; (exact fun h => absurd h (by first | decide | (rw [eb]; decide))); intro yy; clear yy) | decide | omega) | (with_reducible refine frc_bytesL (by first | omega | decide) ?_) | (with_reducible refine frc_bytesM (by first | omega | decide) ?_))
          refine entW_ofI ⟨(W', ms', i + 1, some (f, cL)), [0, 1, 2, 3, 4, 5], ⟨⟨rfl, rfl, rfl⟩, ?_⟩, ⟨⟨hL0, by omega, by rw [itemsK_f hbi]; exact hF, by rw [itemsK_f hbi]; exact hc0, hraw⟩, (show 9 - (i + 1) < 9 - i by omega)⟩⟩
          (repeat first | exact trivial | refine ent1 ?_)
          refine And.intro (show (itemsK b N i).length = (itemsK b N (i + 1)).length by rw [itemsK_f hbi]) ?_
          (repeat first | exact trivial | refine ent1 ?_)
          refine ⟨fun j _ => eqC_numsS, ?_⟩
          (repeat first | exact trivial | refine ent1 ?_)
          refine ⟨fun j _ => eqC_numsS, ?_⟩
          (repeat first | exact trivial | refine ent1 ?_)
          refine ⟨wv_skip hbi, wv_skip hbi, wv_skip hbi, wv_skip hbi, wv_skip hbi, wv_skip hbi, wv_skip hbi, wv_skip hbi, wv_skip hbi, ?_⟩
          (repeat first | exact trivial | refine ent1 ?_)
          refine ⟨fun j hj => ?_, ?_⟩
          · have hj : j = 0 ∨ j = 1 ∨ j = 2 ∨ j = 3 ∨ j = 4 ∨ j = 5 ∨ j = 6 ∨ j = 7 ∨ j = 8 := by omega
            rcases hj with rfl | rfl | rfl | rfl | rfl | rfl | rfl | rfl | rfl <;> (repeat first | exact trivial | refine ent1 ?_)
          (repeat first | exact trivial | refine ent1 ?_)
          refine ⟨fun j _ => eqC_rawI (hraw j), ?_⟩
          (repeat first | exact trivial | refine ent1 ?_)
        | true =>
          rw [hbi] at eb
          (repeat first | (refine And.intro ?_ ?_; first | exact rfl | ((exact fun h => absurd h (by first | decide | (rw [eb]; decide))); intro yy; clear yy) | (rotate_left; (exact fun h => absurd h (by first | decide | (rw [eb]; decide))); intro yy; clear yy) | decide | omega) | (with_reducible refine frc_bytesL (by first | omega | decide) ?_) | (with_reducible refine frc_bytesM (by first | omega | decide) ?_))
          refine ⟨some [2], [], [(0, true), (1, true), (2, true), (3, true), (4, true), (5, true), (6, false), (7, true), (8, false)], [9, 10], by kernel_rfl, ?_⟩
          have hn2 : ids9L[((i : Nat) : Int).toNat + 0]? = some (idI i) := ids_j hlt
          (repeat first | (refine And.intro ?_ ?_; first | exact rfl | ((exact fun h => absurd h (by first | decide | (rw [eb]; decide))); intro yy; clear yy) | (rotate_left; (exact fun h => absurd h (by first | decide | (rw [eb]; decide))); intro yy; clear yy) | decide | omega) | (with_reducible refine frc_bytesL (by first | omega | decide) ?_) | (with_reducible refine frc_bytesM (by first | omega | decide) ?_))
          with_reducible refine frc_nums hn2 ?_
          (repeat first | (refine And.intro ?_ ?_; first | exact rfl | ((exact fun h => absurd h (by first | decide | (rw [eb]; decide))); intro yy; clear yy) | (rotate_left; (exact fun h => absurd h (by first | decide | (rw [eb]; decide))); intro yy; clear yy) | decide | omega) | (with_reducible refine frc_bytesL (by first | omega | decide) ?_) | (with_reducible refine frc_bytesM (by first | omega | decide) ?_))
          refine call_same (fn_qput (N i) (hNl i hlt)) [] rfl (by (repeat first | exact trivial | refine ent1 ?_)) trivial (fun _ _ => trivial) ?_
          rintro y hs' ⟨c1, hc1, rfl, rfl⟩
          have hpl := putL_len (N i)
          have hp8 := lenN_le (N i)
          (repeat first | (refine And.intro ?_ ?_; first | exact rfl | ((exact fun h => absurd h (by first | decide | (rw [eb]; decide))); intro yy; clear yy) | (rotate_left; (exact fun h => absurd h (by first | decide | (rw [eb]; decide))); intro yy; clear yy) | decide | omega) | (with_reducible refine frc_bytesL (by first | omega | decide) ?_) | (with_reducible refine frc_bytesM (by first | omega | decide) ?_))
          refine And.intro (show 0 + 2 ≤ 2 by decide) ?_
          (repeat first | (refine And.intro ?_ ?_; first | exact rfl | ((exact fun h => absurd h (by first | decide | (rw [eb]; decide))); intro yy; clear yy) | (rotate_left; (exact fun h => absurd h (by first | decide | (rw [eb]; decide))); intro yy; clear yy) | decide | omega) | (with_reducible refine frc_bytesL (by first | omega | decide) ?_) | (with_reducible refine frc_bytesM (by first | omega | decide) ?_))
          refine And.intro ⟨hc0, Nat.le_of_eq (Nat.zero_add _), (show ((itemsK b N i).length + 1) * 32 ≤ 140737488355328 by omega)⟩ ?_
          intro c9 hc9
          (repeat first | (refine And.intro ?_ ?_; first | exact rfl | ((exact fun h => absurd h (by first | decide | (rw [eb]; decide))); intro yy; clear yy) | (rotate_left; (exact fun h => absurd h (by first | decide | (rw [eb]; decide))); intro yy; clear yy) | decide | omega) | (with_reducible refine frc_bytesL (by first | omega | decide) ?_) | (with_reducible refine frc_bytesM (by first | omega | decide) ?_))
          have hN8 : (putL (N i)).length ≤ 9223372036854775807 := by omega
          have hi9 : i = 0 ∨ i = 1 ∨ i = 2 ∨ i = 3 ∨ i = 4 ∨ i = 5 ∨ i = 6 ∨ i = 7 ∨ i = 8 := by omega
          rcases hi9 with hk | hk | hk | hk | hk | hk | hk | hk | hk
          · refine frc_atI (y := .p 3 0 0) (by subst hk; rfl) ?_
            (repeat first | (refine And.intro ?_ ?_; first | exact rfl | ((exact fun h => absurd h (by first | decide | (rw [eb]; decide))); intro yy; clear yy) | (rotate_left; (exact fun h => absurd h (by first | decide | (rw [eb]; decide))); intro yy; clear yy) | decide | omega) | (with_reducible refine frc_bytesL (by first | omega | decide) ?_) | (with_reducible refine frc_bytesM (by first | omega | decide) ?_))
            refine entW_frz [0, 1, 2, 3, 4, 8] rfl Nat.zero_lt_one cx0_m rfl (fun W2 ms2 α hL hI => ?_)
            have hput : BsAt W2 ms2 (some ((α 6).add (0 + 0))) (putL (N i)).length c1 (putL (N i)) := frzB (F := fun j => !memB j [0, 1, 2, 3, 4, 8]) (hI 6 rfl) (fun j hj => by first | exact bytesF_lt hj | exact mp_row j hj) (by omega) hN8
            have hF2 : ItF W2 ms2 (snocF f (itemsK b N i).length (idI i) ⟨some ((α 6).add (0 + 0)), (putL (N i)).length, c1⟩) (itemsK b N (i + 1)) := by
              rw [itemsK_t hbi]
              exact (hF.later hL).snoc rfl (idI i) hput
            refine ⟨(W2, ms2, i + 1, some (snocF f (itemsK b N i).length (idI i) ⟨some ((α 6).add (0 + 0)), (putL (N i)).length, c1⟩, c9)), _, _, ?_, rfl, ⟨hL0.trans hL, by omega, hF2, (by rw [itemsK_t hbi, List.length_append]; exact hc9), snoc_raw (fun j _ => hraw j)⟩, (show 9 - (i + 1) < 9 - i by omega)⟩
            refine ⟨⟨rfl, rfl, rfl⟩, ?_⟩
            (repeat first | exact trivial | refine ent1 ?_)
            refine And.intro (show (itemsK b N i).length + 1 = (itemsK b N (i + 1)).length by rw [itemsK_t hbi, List.length_append]; rfl) ?_
            (repeat first | exact trivial | refine ent1 ?_)
            refine ⟨fun j _ => by first | exact eqC_rm nums_raw | exact eqC_r nums_raw, ?_⟩
            (repeat first | exact trivial | refine ent1 ?_)
            refine ⟨fun j _ => by first | exact eqC_rm nums_raw | exact eqC_r nums_raw, ?_⟩
            (repeat first | exact trivial | refine ent1 ?_)
            refine ⟨(by subst hk; exact wv_eq hbi), wv_ne (by omega), wv_ne (by omega), wv_ne (by omega), wv_ne (by omega), wv_ne (by omega), wv_ne (by omega), wv_ne (by omega), wv_ne (by omega), ?_⟩
            (repeat first | exact trivial | refine ent1 ?_)
            refine ⟨fun j hj => ?_, ?_⟩
            · have hj : j = 0 ∨ j = 1 ∨ j = 2 ∨ j = 3 ∨ j = 4 ∨ j = 5 ∨ j = 6 ∨ j = 7 ∨ j = 8 := by omega
              rcases hj with rfl | rfl | rfl | rfl | rfl | rfl | rfl | rfl | rfl <;> (repeat first | exact trivial | refine ent1 ?_)
            (repeat first | exact trivial | refine ent1 ?_)
            refine ⟨fun j _ => app_snoc hF hraw rfl (fun j => by first | rfl | exact mp_rawI (hraw j)) rfl rfl j, ?_⟩
            (repeat first | exact trivial | refine ent1 ?_)
          · refine frc_atI (y := .p 3 1 0) (by subst hk; rfl) ?_
            (repeat first | (refine And.intro ?_ ?_; first | exact rfl | ((exact fun h => absurd h (by first | decide | (rw [eb]; decide))); intro yy; clear yy) | (rotate_left; (exact fun h => absurd h (by first | decide | (rw [eb]; decide))); intro yy; clear yy) | decide | omega) | (with_reducible refine frc_bytesL (by first | omega | decide) ?_) | (with_reducible refine frc_bytesM (by first | omega | decide) ?_))
            refine entW_frz [0, 1, 2, 3, 4, 8] rfl Nat.zero_lt_one cx0_m rfl (fun W2 ms2 α hL hI => ?_)
            have hput : BsAt W2 ms2 (some ((α 6).add (0 + 0))) (putL (N i)).length c1 (putL (N i)) := frzB (F := fun j => !memB j [0, 1, 2, 3, 4, 8]) (hI 6 rfl) (fun j hj => by first | exact bytesF_lt hj | exact mp_row j hj) (by omega) hN8
            have hF2 : ItF W2 ms2 (snocF f (itemsK b N i).length (idI i) ⟨some ((α 6).add (0 + 0)), (putL (N i)).length, c1⟩) (itemsK b N (i + 1)) := by
              rw [itemsK_t hbi]
              exact (hF.later hL).snoc rfl (idI i) hput
            refine ⟨(W2, ms2, i + 1, some (snocF f (itemsK b N i).length (idI i) ⟨some ((α 6).add (0 + 0)), (putL (N i)).length, c1⟩, c9)), _, _, ?_, rfl, ⟨hL0.trans hL, by omega, hF2, (by rw [itemsK_t hbi, List.length_append]; exact hc9), snoc_raw (fun j _ => hraw j)⟩, (show 9 - (i + 1) < 9 - i by omega)⟩
            refine ⟨⟨rfl, rfl, rfl⟩, ?_⟩
            (repeat first | exact trivial | refine ent1 ?_)
            refine And.intro (show (itemsK b N i).length + 1 = (itemsK b N (i + 1)).length by rw [itemsK_t hbi, List.length_append]; rfl) ?_
            (repeat first | exact trivial | refine ent1 ?_)
            refine ⟨fun j _ => by first | exact eqC_rm nums_raw | exact eqC_r nums_raw, ?_⟩
            (repeat first | exact trivial | refine ent1 ?_)
            refine ⟨fun j _ => by first | exact eqC_rm nums_raw | exact eqC_r nums_raw, ?_⟩
            (repeat first | exact trivial | refine ent1 ?_)
            refine ⟨wv_ne (by omega), (by subst hk; exact wv_eq hbi), wv_ne (by omega), wv_ne (by omega), wv_ne (by omega), wv_ne (by omega), wv_ne (by omega), wv_ne (by omega), wv_ne (by omega), ?_⟩
            (repeat first | exact trivial | refine ent1 ?_)
            refine ⟨fun j hj => ?_, ?_⟩
            · have hj : j = 0 ∨ j = 1 ∨ j = 2 ∨ j = 3 ∨ j = 4 ∨ j = 5 ∨ j = 6 ∨ j = 7 ∨ j = 8 := by omega
              rcases hj with rfl | rfl | rfl | rfl | rfl | rfl | rfl | rfl | rfl <;> (repeat first | exact trivial | refine ent1 ?_)
            (repeat first | exact trivial | refine ent1 ?_)
            refine ⟨fun j _ => app_snoc hF hraw rfl (fun j => by first | rfl | exact mp_rawI (hraw j)) rfl rfl j, ?_⟩
            (repeat first | exact trivial | refine ent1 ?_)
          · refine frc_atI (y := .p 3 2 0) (by subst hk; rfl) ?_
            (repeat first | (refine And.intro ?_ ?_; first | exact rfl | ((exact fun h => absurd h (by first | decide | (rw [eb]; decide))); intro yy; clear yy) | (rotate_left; (exact fun h => absurd h (by first | decide | (rw [eb]; decide))); intro yy; clear yy) | decide | omega) | (with_reducible refine frc_bytesL (by first | omega | decide) ?_) | (with_reducible refine frc_bytesM (by first | omega | decide) ?_))
            refine entW_frz [0, 1, 2, 3, 4, 8] rfl Nat.zero_lt_one cx0_m rfl (fun W2 ms2 α hL hI => ?_)
            have hput : BsAt W2 ms2 (some ((α 6).add (0 + 0))) (putL (N i)).length c1 (putL (N i)) := frzB (F := fun j => !memB j [0, 1, 2, 3, 4, 8]) (hI 6 rfl) (fun j hj => by first | exact bytesF_lt hj | exact mp_row j hj) (by omega) hN8
            have hF2 : ItF W2 ms2 (snocF f (itemsK b N i).length (idI i) ⟨some ((α 6).add (0 + 0)), (putL (N i)).length, c1⟩) (itemsK b N (i + 1)) := by
              rw [itemsK_t hbi]
              exact (hF.later hL).snoc rfl (idI i) hput
            refine ⟨(W2, ms2, i + 1, some (snocF f (itemsK b N i).length (idI i) ⟨some ((α 6).add (0 + 0)), (putL (N i)).length, c1⟩, c9)), _, _, ?_, rfl, ⟨hL0.trans hL, by omega, hF2, (by rw [itemsK_t hbi, List.length_append]; exact hc9), snoc_raw (fun j _ => hraw j)⟩, (show 9 - (i + 1) < 9 - i by omega)⟩
            refine ⟨⟨rfl, rfl, rfl⟩, ?_⟩
            (repeat first | exact trivial | refine ent1 ?_)
            refine And.intro (show (itemsK b N i).length + 1 = (itemsK b N (i + 1)).length by rw [itemsK_t hbi, List.length_append]; rfl) ?_
            (repeat first | exact trivial | refine ent1 ?_)
            refine ⟨fun j _ => by first | exact eqC_rm nums_raw | exact eqC_r nums_raw, ?_⟩
            (repeat first | exact trivial | refine ent1 ?_)
            refine ⟨fun j _ => by first | exact eqC_rm nums_raw | exact eqC_r nums_raw, ?_⟩
            (repeat first | exact trivial | refine ent1 ?_)
            refine ⟨wv_ne (by omega), wv_ne (by omega), (by subst hk; exact wv_eq hbi), wv_ne (by omega), wv_ne (by omega), wv_ne (by omega), wv_ne (by omega), wv_ne (by omega), wv_ne (by omega), ?_⟩
            (repeat first | exact trivial | refine ent1 ?_)
            refine ⟨fun j hj => ?_, ?_⟩
            · have hj : j = 0 ∨ j = 1 ∨ j = 2 ∨ j = 3 ∨ j = 4 ∨ j = 5 ∨ j = 6 ∨ j = 7 ∨ j = 8 := by omega
              rcases hj with rfl | rfl | rfl | rfl | rfl | rfl | rfl | rfl | rfl <;> (repeat first | exact trivial | refine ent1 ?_)
            (repeat first | exact trivial | refine ent1 ?_)
            refine ⟨fun j _ => app_snoc hF hraw rfl (fun j => by first | rfl | exact mp_rawI (hraw j)) rfl rfl j, ?_⟩
            (repeat first | exact trivial | refine ent1 ?_)
          · refine frc_atI (y := .p 3 3 0) (by subst hk; rfl) ?_
            (repeat first | (refine And.intro ?_ ?_; first | exact rfl | ((exact fun h => absurd h (by first | decide | (rw [eb]; decide))); intro yy; clear yy) | (rotate_left; (exact fun h => absurd h (by first | decide | (rw [eb]; decide))); intro yy; clear yy) | decide | omega) | (with_reducible refine frc_bytesL (by first | omega | decide) ?_) | (with_reducible refine frc_bytesM (by first | omega | decide) ?_))
            refine entW_frz [0, 1, 2, 3, 4, 8] rfl Nat.zero_lt_one cx0_m rfl (fun W2 ms2 α hL hI => ?_)
            have hput : BsAt W2 ms2 (some ((α 6).add (0 + 0))) (putL (N i)).length c1 (putL (N i)) := frzB (F := fun j => !memB j [0, 1, 2, 3, 4, 8]) (hI 6 rfl) (fun j hj => by first | exact bytesF_lt hj | exact mp_row j hj) (by omega) hN8
            have hF2 : ItF W2 ms2 (snocF f (itemsK b N i).length (idI i) ⟨some ((α 6).add (0 + 0)), (putL (N i)).length, c1⟩) (itemsK b N (i + 1)) := by
              rw [itemsK_t hbi]
              exact (hF.later hL).snoc rfl (idI i) hput
            refine ⟨(W2, ms2, i + 1, some (snocF f (itemsK b N i).length (idI i) ⟨some ((α 6).add (0 + 0)), (putL (N i)).length, c1⟩, c9)), _, _, ?_, rfl, ⟨hL0.trans hL, by omega, hF2, (by rw [itemsK_t hbi, List.length_append]; exact hc9), snoc_raw (fun j _ => hraw j)⟩, (show 9 - (i + 1) < 9 - i by omega)⟩
            refine ⟨⟨rfl, rfl, rfl⟩, ?_⟩
            (repeat first | exact trivial | refine ent1 ?_)
            refine And.intro (show (itemsK b N i).length + 1 = (itemsK b N (i + 1)).length by rw [itemsK_t hbi, List.length_append]; rfl) ?_
            (repeat first | exact trivial | refine ent1 ?_)
            refine ⟨fun j _ => by first | exact eqC_rm nums_raw | exact eqC_r nums_raw, ?_⟩
            (repeat first | exact trivial | refine ent1 ?_)
            refine ⟨fun j _ => by first | exact eqC_rm nums_raw | exact eqC_r nums_raw, ?_⟩
            (repeat first | exact trivial | refine ent1 ?_)
            refine ⟨wv_ne (by omega), wv_ne (by omega), wv_ne (by omega), (by subst hk; exact wv_eq hbi), wv_ne (by omega), wv_ne (by omega), wv_ne (by omega), wv_ne (by omega), wv_ne (by omega), ?_⟩
            (repeat first | exact trivial | refine ent1 ?_)
            refine ⟨fun j hj => ?_, ?_⟩
            · have hj : j = 0 ∨ j = 1 ∨ j = 2 ∨ j = 3 ∨ j = 4 ∨ j = 5 ∨ j = 6 ∨ j = 7 ∨ j = 8 := by omega
              rcases hj with rfl | rfl | rfl | rfl | rfl | rfl | rfl | rfl | rfl <;> (repeat first | exact trivial | refine ent1 ?_)
            (repeat first | exact trivial | refine ent1 ?_)
            refine ⟨fun j _ => app_snoc hF hraw rfl (fun j => by first | rfl | exact mp_rawI (hraw j)) rfl rfl j, ?_⟩
            (repeat first | exact trivial | refine ent1 ?_)
          · refine frc_atI (y := .p 3 4 0) (by subst hk; rfl) ?_
            (repeat first | (refine And.intro ?_ ?_; first | exact rfl | ((exact fun h => absurd h (by first | decide | (rw [eb]; decide))); intro yy; clear yy) | (rotate_left; (exact fun h => absurd h (by first | decide | (rw [eb]; decide))); intro yy; clear yy) | decide | omega) | (with_reducible refine frc_bytesL (by first | omega | decide) ?_) | (with_reducible refine frc_bytesM (by first | omega | decide) ?_))
            refine entW_frz [0, 1, 2, 3, 4, 8] rfl Nat.zero_lt_one cx0_m rfl (fun W2 ms2 α hL hI => ?_)
            have hput : BsAt W2 ms2 (some ((α 6).add (0 + 0))) (putL (N i)).length c1 (putL (N i)) := frzB (F := fun j => !memB j [0, 1, 2, 3, 4, 8]) (hI 6 rfl) (fun j hj => by first | exact bytesF_lt hj | exact mp_row j hj) (by omega) hN8
            have hF2 : ItF W2 ms2 (snocF f (itemsK b N i).length (idI i) ⟨some ((α 6).add (0 + 0)), (putL (N i)).length, c1⟩) (itemsK b N (i + 1)) := by
              rw [itemsK_t hbi]
              exact (hF.later hL).snoc rfl (idI i) hput
            refine ⟨(W2, ms2, i + 1, some (snocF f (itemsK b N i).length (idI i) ⟨some ((α 6).add (0 + 0)), (putL (N i)).length, c1⟩, c9)), _, _, ?_, rfl, ⟨hL0.trans hL, by omega, hF2, (by rw [itemsK_t hbi, List.length_append]; exact hc9), snoc_raw (fun j _ => hraw j)⟩, (show 9 - (i + 1) < 9 - i by omega)⟩
            refine ⟨⟨rfl, rfl, rfl⟩, ?_⟩
            (repeat first | exact trivial | refine ent1 ?_)
            refine And.intro (show (itemsK b N i).length + 1 = (itemsK b N (i + 1)).length by rw [itemsK_t hbi, List.length_append]; rfl) ?_
            (repeat first | exact trivial | refine ent1 ?_)
            refine ⟨fun j _ => by first | exact eqC_rm nums_raw | exact eqC_r nums_raw, ?_⟩
            (repeat first | exact trivial | refine ent1 ?_)
            refine ⟨fun j _ => by first | exact eqC_rm nums_raw | exact eqC_r nums_raw, ?_⟩
            (repeat first | exact trivial | refine ent1 ?_)
            refine ⟨wv_ne (by omega), wv_ne (by omega), wv_ne (by omega), wv_ne (by omega), (by subst hk; exact wv_eq hbi), wv_ne (by omega), wv_ne (by omega), wv_ne (by omega), wv_ne (by omega), ?_⟩
            (repeat first | exact trivial | refine ent1 ?_)
            refine ⟨fun j hj => ?_, ?_⟩
            · have hj : j = 0 ∨ j = 1 ∨ j = 2 ∨ j = 3 ∨ j = 4 ∨ j = 5 ∨ j = 6 ∨ j = 7 ∨ j = 8 := by omega
              rcases hj with rfl | rfl | rfl | rfl | rfl | rfl | rfl | rfl | rfl <;> (repeat first | exact trivial | refine ent1 ?_)
            (repeat first | exact trivial | refine ent1 ?_)
            refine ⟨fun j _ => app_snoc hF hraw rfl (fun j => by first | rfl | exact mp_rawI (hraw j)) rfl rfl j, ?_⟩
            (repeat first | exact trivial | refine ent1 ?_)
          · refine frc_atI (y := .p 3 5 0) (by subst hk; rfl) ?_
            (repeat first | (refine And.intro ?_ ?_; first | exact rfl | ((exact fun h => absurd h (by first | decide | (rw [eb]; decide))); intro yy; clear yy) | (rotate_left; (exact fun h => absurd h (by first | decide | (rw [eb]; decide))); intro yy; clear yy) | decide | omega) | (with_reducible refine frc_bytesL (by first | omega | decide) ?_) | (with_reducible refine frc_bytesM (by first | omega | decide) ?_))
            refine entW_frz [0, 1, 2, 3, 4, 8] rfl Nat.zero_lt_one cx0_m rfl (fun W2 ms2 α hL hI => ?_)
            have hput : BsAt W2 ms2 (some ((α 6).add (0 + 0))) (putL (N i)).length c1 (putL (N i)) := frzB (F := fun j => !memB j [0, 1, 2, 3, 4, 8]) (hI 6 rfl) (fun j hj => by first | exact bytesF_lt hj | exact mp_row j hj) (by omega) hN8
            have hF2 : ItF W2 ms2 (snocF f (itemsK b N i).length (idI i) ⟨some ((α 6).add (0 + 0)), (putL (N i)).length, c1⟩) (itemsK b N (i + 1)) := by
              rw [itemsK_t hbi]
              exact (hF.later hL).snoc rfl (idI i) hput
            refine ⟨(W2, ms2, i + 1, some (snocF f (itemsK b N i).length (idI i) ⟨some ((α 6).add (0 + 0)), (putL (N i)).length, c1⟩, c9)), _, _, ?_, rfl, ⟨hL0.trans hL, by omega, hF2, (by rw [itemsK_t hbi, List.length_append]; exact hc9), snoc_raw (fun j _ => hraw j)⟩, (show 9 - (i + 1) < 9 - i by omega)⟩
            refine ⟨⟨rfl, rfl, rfl⟩, ?_⟩
            (repeat first | exact trivial | refine ent1 ?_)
            refine And.intro (show (itemsK b N i).length + 1 = (itemsK b N (i + 1)).length by rw [itemsK_t hbi, List.length_append]; rfl) ?_
            (repeat first | exact trivial | refine ent1 ?_)
            refine ⟨fun j _ => by first | exact eqC_rm nums_raw | exact eqC_r nums_raw, ?_⟩
            (repeat first | exact trivial | refine ent1 ?_)
            refine ⟨fun j _ => by first | exact eqC_rm nums_raw | exact eqC_r nums_raw, ?_⟩
            (repeat first | exact trivial | refine ent1 ?_)
            refine ⟨wv_ne (by omega), wv_ne (by omega), wv_ne (by omega), wv_ne (by omega), wv_ne (by omega), (by subst hk; exact wv_eq hbi), wv_ne (by omega), wv_ne (by omega), wv_ne (by omega), ?_⟩
            (repeat first | exact trivial | refine ent1 ?_)
            refine ⟨fun j hj => ?_, ?_⟩
            · have hj : j = 0 ∨ j = 1 ∨ j = 2 ∨ j = 3 ∨ j = 4 ∨ j = 5 ∨ j = 6 ∨ j = 7 ∨ j = 8 := by omega
              rcases hj with rfl | rfl | rfl | rfl | rfl | rfl | rfl | rfl | rfl <;> (repeat first | exact trivial | refine ent1 ?_)
            (repeat first | exact trivial | refine ent1 ?_)
            refine ⟨fun j _ => app_snoc hF hraw rfl (fun j => by first | rfl | exact mp_rawI (hraw j)) rfl rfl j, ?_⟩
            (repeat first | exact trivial | refine ent1 ?_)
          · refine frc_atI (y := .p 3 6 0) (by subst hk; rfl) ?_
            (repeat first | (refine And.intro ?_ ?_; first | exact rfl | ((exact fun h => absurd h (by first | decide | (rw [eb]; decide))); intro yy; clear yy) | (rotate_left; (exact fun h => absurd h (by first | decide | (rw [eb]; decide))); intro yy; clear yy) | decide | omega) | (with_reducible refine frc_bytesL (by first | omega | decide) ?_) | (with_reducible refine frc_bytesM (by first | omega | decide) ?_))
            refine entW_frz [0, 1, 2, 3, 4, 8] rfl Nat.zero_lt_one cx0_m rfl (fun W2 ms2 α hL hI => ?_)
            have hput : BsAt W2 ms2 (some ((α 6).add (0 + 0))) (putL (N i)).length c1 (putL (N i)) := frzB (F := fun j => !memB j [0, 1, 2, 3, 4, 8]) (hI 6 rfl) (fun j hj => by first | exact bytesF_lt hj | exact mp_row j hj) (by omega) hN8
            have hF2 : ItF W2 ms2 (snocF f (itemsK b N i).length (idI i) ⟨some ((α 6).add (0 + 0)), (putL (N i)).length, c1⟩) (itemsK b N (i + 1)) := by
              rw [itemsK_t hbi]
              exact (hF.later hL).snoc rfl (idI i) hput
            refine ⟨(W2, ms2, i + 1, some (snocF f (itemsK b N i).length (idI i) ⟨some ((α 6).add (0 + 0)), (putL (N i)).length, c1⟩, c9)), _, _, ?_, rfl, ⟨hL0.trans hL, by omega, hF2, (by rw [itemsK_t hbi, List.length_append]; exact hc9), snoc_raw (fun j _ => hraw j)⟩, (show 9 - (i + 1) < 9 - i by omega)⟩
            refine ⟨⟨rfl, rfl, rfl⟩, ?_⟩
            (repeat first | exact trivial | refine ent1 ?_)
            refine And.intro (show (itemsK b N i).length + 1 = (itemsK b N (i + 1)).length by rw [itemsK_t hbi, List.length_append]; rfl) ?_
            (repeat first | exact trivial | refine ent1 ?_)
            refine ⟨fun j _ => by first | exact eqC_rm nums_raw | exact eqC_r nums_raw, ?_⟩
            (repeat first | exact trivial | refine ent1 ?_)
            refine ⟨fun j _ => by first | exact eqC_rm nums_raw | exact eqC_r nums_raw, ?_⟩
            (repeat first | exact trivial | refine ent1 ?_)
            refine ⟨wv_ne (by omega), wv_ne (by omega), wv_ne (by omega), wv_ne (by omega), wv_ne (by omega), wv_ne (by omega), (by subst hk; exact wv_eq hbi), wv_ne (by omega), wv_ne (by omega), ?_⟩
            (repeat first | exact trivial | refine ent1 ?_)
            refine ⟨fun j hj => ?_, ?_⟩
            · have hj : j = 0 ∨ j = 1 ∨ j = 2 ∨ j = 3 ∨ j = 4 ∨ j = 5 ∨ j = 6 ∨ j = 7 ∨ j = 8 := by omega
              rcases hj with rfl | rfl | rfl | rfl | rfl | rfl | rfl | rfl | rfl <;> (repeat first | exact trivial | refine ent1 ?_)
            (repeat first | exact trivial | refine ent1 ?_)
            refine ⟨fun j _ => app_snoc hF hraw rfl (fun j => by first | rfl | exact mp_rawI (hraw j)) rfl rfl j, ?_⟩
            (repeat first | exact trivial | refine ent1 ?_)
          · refine frc_atI (y := .p 3 7 0) (by subst hk; rfl) ?_
            (repeat first | (refine And.intro ?_ ?_; first | exact rfl | ((exact fun h => absurd h (by first | decide | (rw [eb]; decide))); intro yy; clear yy) | (rotate_left; (exact fun h => absurd h (by first | decide | (rw [eb]; decide))); intro yy; clear yy) | decide | omega) | (with_reducible refine frc_bytesL (by first | omega | decide) ?_) | (with_reducible refine frc_bytesM (by first | omega | decide) ?_))
            refine entW_frz [0, 1, 2, 3, 4, 8] rfl Nat.zero_lt_one cx0_m rfl (fun W2 ms2 α hL hI => ?_)
            have hput : BsAt W2 ms2 (some ((α 6).add (0 + 0))) (putL (N i)).length c1 (putL (N i)) := frzB (F := fun j => !memB j [0, 1, 2, 3, 4, 8]) (hI 6 rfl) (fun j hj => by first | exact bytesF_lt hj | exact mp_row j hj) (by omega) hN8
            have hF2 : ItF W2 ms2 (snocF f (itemsK b N i).length (idI i) ⟨some ((α 6).add (0 + 0)), (putL (N i)).length, c1⟩) (itemsK b N (i + 1)) := by
              rw [itemsK_t hbi]
              exact (hF.later hL).snoc rfl (idI i) hput
            refine ⟨(W2, ms2, i + 1, some (snocF f (itemsK b N i).length (idI i) ⟨some ((α 6).add (0 + 0)), (putL (N i)).length, c1⟩, c9)), _, _, ?_, rfl, ⟨hL0.trans hL, by omega, hF2, (by rw [itemsK_t hbi, List.length_append]; exact hc9), snoc_raw (fun j _ => hraw j)⟩, (show 9 - (i + 1) < 9 - i by omega)⟩
            refine ⟨⟨rfl, rfl, rfl⟩, ?_⟩
            (repeat first | exact trivial | refine ent1 ?_)
            refine And.intro (show (itemsK b N i).length + 1 = (itemsK b N (i + 1)).length by rw [itemsK_t hbi, List.length_append]; rfl) ?_
            (repeat first | exact trivial | refine ent1 ?_)
            refine ⟨fun j _ => by first | exact eqC_rm nums_raw | exact eqC_r nums_raw, ?_⟩
            (repeat first | exact trivial | refine ent1 ?_)
            refine ⟨fun j _ => by first | exact eqC_rm nums_raw | exact eqC_r nums_raw, ?_⟩
            (repeat first | exact trivial | refine ent1 ?_)
            refine ⟨wv_ne (by omega), wv_ne (by omega), wv_ne (by omega), wv_ne (by omega), wv_ne (by omega), wv_ne (by omega), wv_ne (by omega), (by subst hk; exact wv_eq hbi), wv_ne (by omega), ?_⟩
            (repeat first | exact trivial | refine ent1 ?_)
            refine ⟨fun j hj => ?_, ?_⟩
            · have hj : j = 0 ∨ j = 1 ∨ j = 2 ∨ j = 3 ∨ j = 4 ∨ j = 5 ∨ j = 6 ∨ j = 7 ∨ j = 8 := by omega
              rcases hj with rfl | rfl | rfl | rfl | rfl | rfl | rfl | rfl | rfl <;> (repeat first | exact trivial | refine ent1 ?_)
            (repeat first | exact trivial | refine ent1 ?_)
            refine ⟨fun j _ => app_snoc hF hraw rfl (fun j => by first | rfl | exact mp_rawI (hraw j)) rfl rfl j, ?_⟩
            (repeat first | exact trivial | refine ent1 ?_)
          · refine frc_atI (y := .p 3 8 0) (by subst hk; rfl) ?_
            (repeat first | (refine And.intro ?_ ?_; first | exact rfl | ((exact fun h => absurd h (by first | decide | (rw [eb]; decide))); intro yy; clear yy) | (rotate_left; (exact fun h => absurd h (by first | decide | (rw [eb]; decide))); intro yy; clear yy) | decide | omega) | (with_reducible refine frc_bytesL (by first | omega | decide) ?_) | (with_reducible refine frc_bytesM (by first | omega | decide) ?_))
            refine entW_frz [0, 1, 2, 3, 4, 8] rfl Nat.zero_lt_one cx0_m rfl (fun W2 ms2 α hL hI => ?_)
            have hput : BsAt W2 ms2 (some ((α 6).add (0 + 0))) (putL (N i)).length c1 (putL (N i)) := frzB (F := fun j => !memB j [0, 1, 2, 3, 4, 8]) (hI 6 rfl) (fun j hj => by first | exact bytesF_lt hj | exact mp_row j hj) (by omega) hN8
            have hF2 : ItF W2 ms2 (snocF f (itemsK b N i).length (idI i) ⟨some ((α 6).add (0 + 0)), (putL (N i)).length, c1⟩) (itemsK b N (i + 1)) := by
              rw [itemsK_t hbi]
              exact (hF.later hL).snoc rfl (idI i) hput
            refine ⟨(W2, ms2, i + 1, some (snocF f (itemsK b N i).length (idI i) ⟨some ((α 6).add (0 + 0)), (putL (N i)).length, c1⟩, c9)), _, _, ?_, rfl, ⟨hL0.trans hL, by omega, hF2, (by rw [itemsK_t hbi, List.length_append]; exact hc9), snoc_raw (fun j _ => hraw j)⟩, (show 9 - (i + 1) < 9 - i by omega)⟩
            refine ⟨⟨rfl, rfl, rfl⟩, ?_⟩
            (repeat first | exact trivial | refine ent1 ?_)
            refine And.intro (show (itemsK b N i).length + 1 = (itemsK b N (i + 1)).length by rw [itemsK_t hbi, List.length_append]; rfl) ?_
            (repeat first | exact trivial | refine ent1 ?_)
            refine ⟨fun j _ => by first | exact eqC_rm nums_raw | exact eqC_r nums_raw, ?_⟩
            (repeat first | exact trivial | refine ent1 ?_)
            refine ⟨fun j _ => by first | exact eqC_rm nums_raw | exact eqC_r nums_raw, ?_⟩
            (repeat first | exact trivial | refine ent1 ?_)
            refine ⟨wv_ne (by omega), wv_ne (by omega), wv_ne (by omega), wv_ne (by omega), wv_ne (by omega), wv_ne (by omega), wv_ne (by omega), wv_ne (by omega), (by subst hk; exact wv_eq hbi), ?_⟩
            (repeat first | exact trivial | refine ent1 ?_)
            refine ⟨fun j hj => ?_, ?_⟩
            · have hj : j = 0 ∨ j = 1 ∨ j = 2 ∨ j = 3 ∨ j = 4 ∨ j = 5 ∨ j = 6 ∨ j = 7 ∨ j = 8 := by omega
              rcases hj with rfl | rfl | rfl | rfl | rfl | rfl | rfl | rfl | rfl <;> (repeat first | exact trivial | refine ent1 ?_)
            (repeat first | exact trivial | refine ent1 ?_)
            refine ⟨fun j _ => app_snoc hF hraw rfl (fun j => by first | rfl | exact mp_rawI (hraw j)) rfl rfl j, ?_⟩
            (repeat first | exact trivial | refine ent1 ?_)
      · have hge : i = 9 := by have : ¬ (i : Int) < (9 : Int) := of_decide_eq_false hge; omega
        subst hge
        (repeat first | (refine And.intro ?_ ?_; first | exact rfl | ((exact fun h => absurd h (by first | decide)); intro yy; clear yy) | (rotate_left; (exact fun h => absurd h (by first | decide)); intro yy; clear yy) | decide | omega) | (with_reducible refine frc_bytesL (by first | omega | decide) ?_) | (with_reducible refine frc_bytesM (by first | omega | decide) ?_))
        refine And.intro (show 0 + 2 ≤ 4 by decide) ?_
        (repeat first | (refine And.intro ?_ ?_; first | exact rfl | ((exact fun h => absurd h (by first | decide)); intro yy; clear yy) | (rotate_left; (exact fun h => absurd h (by first | decide)); intro yy; clear yy) | decide | omega) | (with_reducible refine frc_bytesL (by first | omega | decide) ?_) | (with_reducible refine frc_bytesM (by first | omega | decide) ?_))
        refine And.intro (show 2 + 2 ≤ 4 by decide) ?_
        (repeat first | (refine And.intro ?_ ?_; first | exact rfl | ((exact fun h => absurd h (by first | decide)); intro yy; clear yy) | (rotate_left; (exact fun h => absurd h (by first | decide)); intro yy; clear yy) | decide | omega) | (with_reducible refine frc_bytesL (by first | omega | decide) ?_) | (with_reducible refine frc_bytesM (by first | omega | decide) ?_))
        refine And.intro ⟨hc0, Nat.le_of_eq (Nat.zero_add _), (show ((itemsK b N 9).length + 2) * 32 ≤ 140737488355328 by omega)⟩ ?_
        intro c9 hc9
        have hF2 : ItF W' ms' (snocF (snocF f (itemsK b N 9).length 15#64 ⟨a, x.s.l.length, c⟩) ((itemsK b N 9).length + 1) (100#64 + id) ⟨aB, other.length, cB⟩) I0 := by
          have hxA2 := hxA.later hL0
          have hB2 := hB.later hL0
          have := (hF.snoc rfl 15#64 hxA2).snoc (List.length_append ..) (100#64 + id) hB2
          rw [List.append_assoc] at this
          rw [hI0]; unfold items0; exact this
        exact key W' ms' _ ((itemsK b N 9).length + 2) c9 _ _ _ _ _ _ _ _ _ _ _ _ _ _ _ _ _ _ _ hL0 ⟨_, hF2, snoc_raw (fun j _ => snoc_raw (fun j _ => hraw j) j), fun q j => app_snoc2 hraw (fun j => by first | rfl | exact mp_rawI (hraw j)) rfl rfl rfl rfl q j⟩ (by rw [hI0]; unfold items0; rw [List.length_append]; rfl) hc9
  rintro W1 ms1 f1 n1 c1 h2 h4 h5 h6 v12 v15 v67 v68 v69 v94 v95 v96 v97 v98 v99 v100 v101 v102 v103 hL1 ⟨f2, hF2, hr2, hf2⟩ hn1 hc1
  have hO1 := hO.later hL1
  have hn2 : 2 ≤ n1 ∧ n1 ≤ 11 := by
    have := itemsK_len (b := b) (N := N) (k := 9)
    have h1 : n1 = (itemsK b N 9).length + 2 := by rw [← hn1, hI0]; unfold items0; rw [List.length_append]; rfl
    omega
  refine vc_join1 (fun P => ∀ (f : Nat → SC) (l : List It) (u18 u19 u105 u106 u107 u108 u109 u110 u111 u112 : SV), ItF W1 ms1 f l → (∀ j, (f j).raw = f j) → l.Perm I0 →
    P ⟨[.any, .any, .any, .any, .any, .any, .any, .any, .any, .any, .any, .any, .any, .a (.c (.sl 2 0 0 n1 c1)), .a (.c (.p 1 0 0)), .any, .any, .any, u18, u19, .any, .any, .any, .any, .any, .any, .any, .any, .any, .any, .any, .any, .any, .any, .any, .any, .any, .any, .any, .any, .any, .any, .any, .any, .any, .any, .any, .any, .any, .any, .any, .any, .any, .any, .any, .any, .any, .any, .any, .any, .any, .any, .any, .any, .any, .any, .any, .any, .any, .any, .any, .any, .any, .any, .any, .any, .any, .any, .any, .any, .any, .any, .any, .any, .any, .any, .any, .any, .any, .any, .any, .any, .any, .any, .any, .any, .any, .any, .any, .any, .any, .any, .any, .any, .a (.c (.slc aO os.length cO)), u105, u106, u107, u108, u109, u110, u111, u112, .any, .any, .any, .any, .any, .any, .any, .any, .any, .any, .any, .any, .any, .any, .any, .any, .any, .any, .any, .any, .any, .any, .any, .any, .any, .any, .any, .any, .any, .any, .any, .any, .any, .any, .any, .any, .any, .any, .any, .any, .any, .any, .any, .any, .any, .any, .any, .any, .any, .any, .any, .any, .any, .any, .any, .any, .any, .any, .any, .any, .any, .any, .any, .any, .any, .any, .any, .any, .any, .any, .any, .any, .any, .any, .any, .any, .any, .any, .any, .any, .any, .any, .any, .any, .any, .any, .any, .any, .any, .any, .any, .any, .any, .any, .any, .any, .any, .any, .any, .any], [[.past W1 ms1], wantC (wv b N 9) a x.s.l.length c, [.row (scale c1 (1 + 1)) f, .row 0 (fun _ => SC.any)]]⟩) ?_ ?_; rotate_left
  · intro P key
    (repeat first | (refine And.intro ?_ ?_; first | exact rfl | ((exact fun h => absurd h (by first | decide)); intro yy; clear yy) | (rotate_left; (exact fun h => absurd h (by first | decide)); intro yy; clear yy) | decide | omega) | (with_reducible refine frc_bytesL (by first | omega | decide) ?_) | (with_reducible refine frc_bytesM (by first | omega | decide) ?_))
    refine .inr ⟨0, Nat × (Nat → SC) × List It, fun (i, f, l) => ⟨[.any, .any, .any, .any, .any, .any, .any, .any, .any, .any, .any, .any, .any, .a (.c (.sl 2 0 0 n1 c1)), .a (.c (.p 1 0 0)), .any, .any, .any, .any, .any, .any, .any, .any, .any, .any, .any, .any, .any, .any, .any, .any, .any, .any, .any, .any, .any, .any, .any, .any, .any, .any, .any, .any, .any, .any, .any, .any, .any, .any, .any, .any, .any, .any, .any, .any, .any, .any, .any, .any, .any, .any, .any, .any, .any, .any, .any, .any, .any, .any, .any, .any, .any, .any, .any, .any, .any, .any, .any, .any, .any, .any, .any, .any, .any, .any, .any, .any, .any, .any, .any, .any, .any, .any, .any, .any, .any, .any, .any, .any, .any, .any, .any, .any, .any, .a (.c (.slc aO os.length cO)), .a (.c (.int .i64 (↑os.length))), .a (.c (.int .i64 (↑i))), .any, .any, .any, .any, .any, .any, .any, .any, .any, .any, .any, .any, .any, .any, .any, .any, .any, .any, .any, .any, .any, .any, .any, .any, .any, .any, .any, .any, .any, .any, .any, .any, .any, .any, .any, .any, .any, .any, .any, .any, .any, .any, .any, .any, .any, .any, .any, .any, .any, .any, .any, .any, .any, .any, .any, .any, .any, .any, .any, .any, .any, .any, .any, .any, .any, .any, .any, .any, .any, .any, .any, .any, .any, .any, .any, .any, .any, .any, .any, .any, .any, .any, .any, .any, .any, .any, .any, .any, .any, .any, .any, .any, .any, .any, .any, .any, .any, .any, .any, .any, .any, .any, .any, .any, .any, .any], [[.past W1 ms1], wantC (wv b N 9) a x.s.l.length c, [.row (scale c1 (1 + 1)) f, .row 0 (fun _ => SC.any)]]⟩,
      fun (i, f, l) => i ≤ os.length ∧ ItF W1 ms1 f l ∧ (∀ j, (f j).raw = f j) ∧ l.Perm I0, fun (i, _, _) => os.length - i, entW_mark (z := fun _ => SC.any) 7 rfl (entW_ofI ⟨(0, f2, I0), [0, 3, 7], ⟨⟨rfl, rfl, rfl⟩, ?_⟩, ⟨Nat.zero_le _, hF2, hr2, List.Perm.refl _⟩⟩), fun (i, f, l) hp => ?_⟩
    · (repeat first | exact trivial | refine ent1 ?_)
      refine ⟨fun j _ => hf2 _ j, ?_⟩
      (repeat first | exact trivial | refine ent1 ?_)
    obtain ⟨hi, hF, hraw, hP⟩ := hp
    have hll : l.length = n1 := by rw [← hn1]; exact hP.length_eq
    refine And.intro (fun hlt => ?_) (fun hge => ?_)
    · have hlt : i < os.length := by have : (i : Int) < (os.length : Int) := of_decide_eq_true hlt; omega
      cases haO : aO with
      | none => rw [haO] at hO1; have := hO1.nil_.1; omega
      | some AO =>
      subst haO
      have hOle := hO1.le
      obtain ⟨o, ho⟩ : ∃ o, os[i]? = some o := ⟨_, List.getElem?_eq_getElem hlt⟩
      (repeat first | (refine And.intro ?_ ?_; first | exact rfl | ((exact fun h => absurd h (by first | decide)); intro yy; clear yy) | (rotate_left; (exact fun h => absurd h (by first | decide)); intro yy; clear yy) | decide | omega) | (with_reducible refine frc_bytesL (by first | omega | decide) ?_) | (with_reducible refine frc_bytesM (by first | omega | decide) ?_))
      refine loadR (i := 0) rfl (hO1.im AO rfl (by omega)) (j := i * 1) (map_get? (by rw [Nat.mul_one]; exact ho)) ?_
      by_cases h30 : 30 ≤ i
      · have e30 : decide ((30 : Int) ≤ (i : Int)) = true := decide_eq_true (by omega)
        (repeat first | (refine And.intro ?_ ?_; first | exact rfl | ((exact fun h => absurd h (by first | decide | (rw [e30]; decide))); intro yy; clear yy) | (rotate_left; (exact fun h => absurd h (by first | decide | (rw [e30]; decide))); intro yy; clear yy) | decide | omega) | (with_reducible refine frc_bytesL (by first | omega | decide) ?_) | (with_reducible refine frc_bytesM (by first | omega | decide) ?_))
        exact key f l _ _ _ _ _ _ _ _ _ _ hF hraw hP
      have e30 : decide ((30 : Int) ≤ (i : Int)) = false := decide_eq_false (by omega)
      (repeat first | (refine And.intro ?_ ?_; first | exact rfl | ((exact fun h => absurd h (by first | decide | (rw [e30]; decide))); intro yy; clear yy) | (rotate_left; (exact fun h => absurd h (by first | decide | (rw [e30]; decide))); intro yy; clear yy) | decide | omega) | (with_reducible refine frc_bytesL (by first | omega | decide) ?_) | (with_reducible refine frc_bytesM (by first | omega | decide) ?_))
      refine ⟨none, [], [(0, true), (1, true), (2, true), (3, true), (4, true), (5, true), (6, true), (7, true), (8, true), (9, true), (10, true)], [], by kernel_rfl, ?_⟩
      (repeat first | (refine And.intro ?_ ?_; first | exact rfl | ((exact fun h => absurd h (by first | decide | (rw [e30]; decide))); intro yy; clear yy) | (rotate_left; (exact fun h => absurd h (by first | decide | (rw [e30]; decide))); intro yy; clear yy) | decide | omega) | (with_reducible refine frc_bytesL (by first | omega | decide) ?_) | (with_reducible refine frc_bytesM (by first | omega | decide) ?_))
      obtain ⟨A, hA⟩ : ∃ A, A = i % n1 := ⟨_, rfl⟩
      obtain ⟨B, hB⟩ : ∃ B, B = o.toNat % n1 := ⟨_, rfl⟩
      have hA1 : A < n1 := by rw [hA]; exact Nat.mod_lt _ (by omega)
      have hB1 : B < n1 := by rw [hB]; exact Nat.mod_lt _ (by omega)
      have hA2 : (i : Int) % (n1 : Int) = (A : Int) := by rw [hA]; rfl
      have hB2 : (o.toNat : Int) % (n1 : Int) = (B : Int) := by rw [hB]; rfl
      rw [hA2, hB2]
      refine ⟨none, [], [(0, true), (1, true), (2, true), (3, true), (4, true), (5, true), (6, true), (7, true), (8, true), (9, true), (10, true), (11, true), (12, true)], [13, 14, 15], by kernel_rfl, ?_⟩
      (repeat first | (refine And.intro ?_ ?_; first | exact rfl | ((exact fun h => absurd h (by first | decide | (rw [e30]; decide))); intro yy; clear yy) | (rotate_left; (exact fun h => absurd h (by first | decide | (rw [e30]; decide))); intro yy; clear yy) | decide | omega) | (with_reducible refine frc_bytesL (by first | omega | decide) ?_) | (with_reducible refine frc_bytesM (by first | omega | decide) ?_))
      obtain ⟨xB, qB0, qB1, _⟩ := hF B _ (List.getElem?_eq_getElem (by omega))
      obtain ⟨xA, qA0, qA1, _⟩ := hF A _ (List.getElem?_eq_getElem (by omega))
      refine And.intro (show ((B : Nat) : Int).toNat * 2 + 0 < scale c1 (1 + 1) by rw [sc2]; omega) ?_
      refine And.intro (show ((B : Nat) : Int).toNat * 2 + 0 + 1 < scale c1 (1 + 1) by rw [sc2]; omega) ?_
      refine takeB_nilI ?_
      refine frc_atI (y := .slc xB.a xB.n xB.c) qB1 ?_
      refine frc_atI qB0 ?_
      (repeat first | (refine And.intro ?_ ?_; first | exact rfl | ((exact fun h => absurd h (by first | decide | (rw [e30]; decide))); intro yy; clear yy) | (rotate_left; (exact fun h => absurd h (by first | decide | (rw [e30]; decide))); intro yy; clear yy) | decide | omega) | (with_reducible refine frc_bytesL (by first | omega | decide) ?_) | (with_reducible refine frc_bytesM (by first | omega | decide) ?_))
      refine And.intro (show ((A : Nat) : Int).toNat * 2 + 0 < scale c1 (1 + 1) by rw [sc2]; omega) ?_
      refine And.intro (show ((A : Nat) : Int).toNat * 2 + 0 + 1 < scale c1 (1 + 1) by rw [sc2]; omega) ?_
      refine takeB_nilI ?_
      refine frc_atI (y := .slc xA.a xA.n xA.c) qA1 ?_
      refine frc_atI qA0 ?_
      (repeat first | (refine And.intro ?_ ?_; first | exact rfl | ((exact fun h => absurd h (by first | decide | (rw [e30]; decide))); intro yy; clear yy) | (rotate_left; (exact fun h => absurd h (by first | decide | (rw [e30]; decide))); intro yy; clear yy) | decide | omega) | (with_reducible refine frc_bytesL (by first | omega | decide) ?_) | (with_reducible refine frc_bytesM (by first | omega | decide) ?_))
      refine And.intro (show ((A : Nat) : Int).toNat * 2 + 0 + 2 ≤ scale c1 (1 + 1) by rw [sc2]; omega) ?_
      (repeat first | (refine And.intro ?_ ?_; first | exact rfl | ((exact fun h => absurd h (by first | decide | (rw [e30]; decide))); intro yy; clear yy) | (rotate_left; (exact fun h => absurd h (by first | decide | (rw [e30]; decide))); intro yy; clear yy) | decide | omega) | (with_reducible refine frc_bytesL (by first | omega | decide) ?_) | (with_reducible refine frc_bytesM (by first | omega | decide) ?_))
      refine And.intro (show ((B : Nat) : Int).toNat * 2 + 0 + 2 ≤ scale c1 (1 + 1) by rw [sc2]; omega) ?_
      (repeat first | (refine And.intro ?_ ?_; first | exact rfl | ((exact fun h => absurd h (by first | decide | (rw [e30]; decide))); intro yy; clear yy) | (rotate_left; (exact fun h => absurd h (by first | decide | (rw [e30]; decide))); intro yy; clear yy) | decide | omega) | (with_reducible refine frc_bytesL (by first | omega | decide) ?_) | (with_reducible refine frc_bytesM (by first | omega | decide) ?_))
      refine entW_ofI ⟨(i + 1, swapF f A B, swapL l A B), [0, 1, 2], ⟨⟨rfl, rfl, rfl⟩, ?_⟩, ⟨⟨by omega, hF.swap (by omega) (by omega), swap_raw hraw, (swapL_perm l A B).trans hP⟩, (show os.length - (i + 1) < os.length - i by omega)⟩⟩
      (repeat first | exact trivial | refine ent1 ?_)
      refine ⟨fun j _ => ?_, ?_⟩
      · have hs := upd_swap (f := f) (u := nthC [.w64 (l[B]'(by omega)).id, .slc xB.a xB.n xB.c]) (v := nthC [.w64 (l[A]'(by omega)).id, .slc xA.a xA.n xA.c]) (a := A) (b := B) (fun i hi => by
          match i, hi with
          | 0, _ => exact qB0.symm
          | 1, _ => exact qB1.symm) (fun i hi => by
          match i, hi with
          | 0, _ => exact qA0.symm
          | 1, _ => exact qA1.symm) j
        refine cast (congrArg (fun y => eqC [0, 1, 2] y (swapF f A B j) True) hs.symm) ?_
        exact eqC_rawI (swap_raw hraw j)
      (repeat first | exact trivial | refine ent1 ?_)
    · (repeat first | (refine And.intro ?_ ?_; first | exact rfl | ((exact fun h => absurd h (by first | decide)); intro yy; clear yy) | (rotate_left; (exact fun h => absurd h (by first | decide)); intro yy; clear yy) | decide | omega) | (with_reducible refine frc_bytesL (by first | omega | decide) ?_) | (with_reducible refine frc_bytesM (by first | omega | decide) ?_))
      exact key f l _ _ _ _ _ _ _ _ _ _ hF hraw hP
  rintro f l u18 u19 u105 u106 u107 u108 u109 u110 u111 u112 hF hraw hP
  have hll : l.length = n1 := by rw [← hn1]; exact hP.length_eq
  have hmem : ∀ x ∈ l, x ∈ I0 := fun x hx => hP.mem_iff.1 hx
  have hvI : ∀ y ∈ I0, y.v.length ≤ 100 := by
    intro y hy
    rw [hI0] at hy
    rcases List.mem_append.1 hy with hy | hy
    · obtain ⟨j, _, _, rfl⟩ := mem_itemsK.1 hy
      have h1 := putL_len (N j)
      have h2 := lenN_le (N j)
      show (putL (N j)).length ≤ 100
      omega
    · simp only [List.mem_cons, List.not_mem_nil, or_false] at hy
      rcases hy with rfl | rfl
      · show x.s.l.length ≤ 100; omega
      · show other.length ≤ 100; omega
  have hJ : ∀ m : List It, (∀ x ∈ m, x ∈ I0) → m.length ≤ 12 → (joinI m).length ≤ 1392 := fun m hm hl => by
    have := joinI_le (B := 100) (l := m) (fun x hx => hvI x (hm x hx))
    omega
  have hOk : ∀ x ∈ I0, ∀ m, 100 ≤ m → ItOk m x := fun x hx m hm => by
    rw [hI0] at hx hvI
    exact ok_items0 hid hNl (fun y hy => Nat.le_trans (hvI y hy) hm) x hx
  have hid0 : ∀ x ∈ I0, lenN x.id ≠ 0 := fun x hx => (hOk x hx 100 (Nat.le_refl _)).id
  (repeat first | (refine And.intro ?_ ?_; first | exact rfl | ((exact fun h => absurd h (by first | decide)); intro yy; clear yy) | (rotate_left; (exact fun h => absurd h (by first | decide)); intro yy; clear yy) | decide | omega) | (with_reducible refine frc_bytesL (by first | omega | decide) ?_) | (with_reducible refine frc_bytesM (by first | omega | decide) ?_))
  refine call_lend [2] 0 [] rfl rfl (by (repeat first | exact trivial | refine ent1 ?_)) NoP.nil (fun _ _ => trivial) (fun W' ms' α hL' hI => ⟨[.c (.slc (some ((α 2).add (0 + 0))) n1 c1)], ?_, (fn_join (hF.lend (F := fun j => memB j [2]) hL' hll hc1 (by omega) (fun j _ => rfl) flat_mark (hI 2 rfl)) (by omega) (fun x hx => hid0 x (hmem x hx)) (fun m hm hml => Nat.le_trans (hJ m (fun x hx => hmem x (hm x hx)) (Nat.le_trans hml (by omega))) (by decide))).mono (Res' := fun y hs => ∃ c5, (joinI l).length ≤ c5 ∧ y = .a (.c (.sl 1 0 0 (joinI l).length c5)) ∧ hs.drop 1 = [lsC (joinI l) c5]) (fun x hs hr => ?_)⟩) (fun x hs hr => ?_) ?_
  · (repeat first | exact trivial | refine ent1 ?_)
  · obtain ⟨c5, h5, rfl, rfl⟩ := hr
    exact ⟨c5, h5, rfl, rfl⟩
  · obtain ⟨c5, _, _, h1⟩ := hr
    rw [h1]
    exact NoP.cons (fun W ms h => by cases h) NoP.nil
  rintro y hs ⟨cJ, hcJ, rfl, hdrop⟩
  rw [hdrop]
  clear hdrop
  (repeat first | (refine And.intro ?_ ?_; first | exact rfl | ((exact fun h => absurd h (by first | decide)); intro yy; clear yy) | (rotate_left; (exact fun h => absurd h (by first | decide)); intro yy; clear yy) | decide | omega) | (with_reducible refine frc_bytesL (by first | omega | decide) ?_) | (with_reducible refine frc_bytesM (by first | omega | decide) ?_))
  have hJ1 := hJ l hmem (by omega)
  refine call_same (fn_ptake ⟨false, cJ, 0, cJ, joinI l⟩ (own_ok hcJ (by omega))) [3] rfl (by (repeat first | exact trivial | refine ent1 ?_)) (by refine ⟨rfl, fun j hj => eqC_winBM (Nat.le_refl _), ?_⟩; (repeat first | exact trivial | refine ent1 ?_)) (fun _ _ => trivial) ?_
  rintro y hs' ⟨q1, e1, hq1, hqo1, rfl, rfl⟩
  have hT1 : e1 = 0 ∧ sameP q1 (wantP b N x.s) := order_take (s := x.s) (by rw [← hI0]; exact hP) hid hNl (by omega) rfl (by rw [hN]; exact want_check hxc rfl) hq1
  obtain ⟨rfl, hsm⟩ := hT1
  obtain ⟨qW, hqW⟩ : ∃ qW : Pm, qW = ⟨wv b N 9 0, wv b N 9 1, wv b N 9 2, wv b N 9 3, wv b N 9 4, wv b N 9 5, wv b N 9 6, wv b N 9 7, wv b N 9 8, x.s⟩ := ⟨_, rfl⟩
  have hqW2 : qW = wantP b N x.s := by
    rw [hqW]
    simp [wv, wantP]
  rw [← hqW2] at hsm
  have k0 : decide ((0 : Int) ≠ 0) = false := by decide
  (repeat first | (refine And.intro ?_ ?_; first | exact rfl | ((exact fun h => absurd h (by first | decide | (rw [k0]; decide))); intro yy; clear yy) | (rotate_left; (exact fun h => absurd h (by first | decide | (rw [k0]; decide))); intro yy; clear yy) | decide | omega) | (with_reducible refine frc_bytesL (by first | omega | decide) ?_) | (with_reducible refine frc_bytesM (by first | omega | decide) ?_))
  refine call_same (fn_psameR q1 qW hqo1 (show BsAt W1 ms1 a x.s.l.length c qW.s.l by rw [hqW]; exact hxA.later hL1) (by rw [hqW]; show x.s.l.length ≤ 1000000; omega)) [4, 0] rfl (by rw [hqW]; (repeat first | exact trivial | refine ent1 ?_)) (by refine eqC_btsM ?_; (repeat first | exact trivial | refine ent1 ?_)) (fun _ _ => trivial) ?_
  rintro y hs' ⟨rfl, rfl⟩
  have k1 : (!decide (sameP q1 qW)) = false := by rw [decide_eq_true hsm]; rfl
  (repeat first | (refine And.intro ?_ ?_; first | exact rfl | ((exact fun h => absurd h (by first | decide | (rw [k0]; decide) | (rw [k1]; decide))); intro yy; clear yy) | (rotate_left; (exact fun h => absurd h (by first | decide | (rw [k0]; decide) | (rw [k1]; decide))); intro yy; clear yy) | decide | omega) | (with_reducible refine frc_bytesL (by first | omega | decide) ?_) | (with_reducible refine frc_bytesM (by first | omega | decide) ?_))
  obtain ⟨y0, hy0⟩ : ∃ y0, l[0]? = some y0 := ⟨_, List.getElem?_eq_getElem (by omega)⟩
  obtain ⟨xY, qY0, qY1, hYv⟩ := hF 0 _ hy0
  have hy0m : y0 ∈ l := List.mem_of_getElem? hy0
  have hndl : (l.map It.id).Nodup := (hP.map It.id).nodup_iff.2 (by rw [hI0]; exact nodup_items0 hid)
  have hFS : ItF W1 ms1 (snocF f n1 y0.id xY) (l ++ [y0]) := hF.snoc hll y0.id hYv
  have hmemS : ∀ x ∈ l ++ [y0], x ∈ I0 := fun x hx => by
    rcases List.mem_append.1 hx with hx | hx
    · exact hmem x hx
    · rw [List.mem_singleton.1 hx]; exact hmem y0 hy0m
  have hlS : (l ++ [y0]).length = n1 + 1 := by rw [List.length_append, hll]; rfl
  have hItS : ∀ m : List It, (∀ x ∈ m, x ∈ I0) → ∀ x ∈ m, ItOk (joinI m).length x := fun m hm x hx => ⟨(hOk x (hm x hx) 100 (Nat.le_refl _)).id, mem_len hx, (hOk x (hm x hx) 100 (Nat.le_refl _)).num⟩
  refine And.intro (show (0 : Int).toNat * 2 + 0 < scale c1 (1 + 1) by rw [sc2]; omega) ?_
  refine And.intro (show (0 : Int).toNat * 2 + 0 + 1 < scale c1 (1 + 1) by rw [sc2]; omega) ?_
  refine takeB_nilI ?_
  refine frc_atI (y := .slc xY.a xY.n xY.c) qY1 ?_
  refine frc_atI qY0 ?_
  (repeat first | (refine And.intro ?_ ?_; first | exact rfl | ((exact fun h => absurd h (by first | decide | (rw [k0]; decide) | (rw [k1]; decide))); intro yy; clear yy) | (rotate_left; (exact fun h => absurd h (by first | decide | (rw [k0]; decide) | (rw [k1]; decide))); intro yy; clear yy) | decide | omega) | (with_reducible refine frc_bytesL (by first | omega | decide) ?_) | (with_reducible refine frc_bytesM (by first | omega | decide) ?_))
  refine And.intro (show 0 + 2 ≤ 2 by decide) ?_
  (repeat first | (refine And.intro ?_ ?_; first | exact rfl | ((exact fun h => absurd h (by first | decide | (rw [k0]; decide) | (rw [k1]; decide))); intro yy; clear yy) | (rotate_left; (exact fun h => absurd h (by first | decide | (rw [k0]; decide) | (rw [k1]; decide))); intro yy; clear yy) | decide | omega) | (with_reducible refine frc_bytesL (by first | omega | decide) ?_) | (with_reducible refine frc_bytesM (by first | omega | decide) ?_))
  refine And.intro ⟨hc1, Nat.le_of_eq (Nat.zero_add _), (show (n1 + 1) * 32 ≤ 140737488355328 by omega)⟩ ?_
  refine And.intro (fun hfit => ?_) (fun c9 hc9 => ?_)
  · (repeat first | (refine And.intro ?_ ?_; first | exact rfl | ((exact fun h => absurd h (by first | decide | (rw [k0]; decide) | (rw [k1]; decide))); intro yy; clear yy) | (rotate_left; (exact fun h => absurd h (by first | decide | (rw [k0]; decide) | (rw [k1]; decide))); intro yy; clear yy) | decide | omega) | (with_reducible refine frc_bytesL (by first | omega | decide) ?_) | (with_reducible refine frc_bytesM (by first | omega | decide) ?_))
    refine call_lend [2] 0 [] rfl rfl (by (repeat first | exact trivial | refine ent1 ?_)) NoP.nil (fun _ _ => trivial) (fun W' ms' α hL' hI => ⟨[.c (.slc (some ((α 2).add (0 + 0))) (n1 + 1) c1)], ?_, (fn_join (hFS.lend (F := fun j => memB j [2]) hL' hlS hfit (by omega) (fun j hj => upd_snocE (fun _ => rfl) rfl rfl j hj) flat_mark (hI 2 rfl)) (by omega) (fun x hx => hid0 x (hmemS x hx)) (fun m hm hml => Nat.le_trans (hJ m (fun x hx => hmemS x (hm x hx)) (Nat.le_trans hml (by omega))) (by decide))).mono (Res' := fun y hs => ∃ c5, (joinI (l ++ [y0])).length ≤ c5 ∧ y = .a (.c (.sl 1 0 0 (joinI (l ++ [y0])).length c5)) ∧ hs.drop 1 = [lsC (joinI (l ++ [y0])) c5]) (fun x hs hr => ?_)⟩) (fun x hs hr => ?_) ?_
    · (repeat first | exact trivial | refine ent1 ?_)
    · obtain ⟨c5, h5, rfl, rfl⟩ := hr
      exact ⟨c5, h5, rfl, rfl⟩
    · obtain ⟨c5, _, _, h1⟩ := hr
      rw [h1]
      exact NoP.cons (fun W ms h => by cases h) NoP.nil
    rintro y hs ⟨cK, hcK, rfl, hdrop⟩
    rw [hdrop]
    clear hdrop
    (repeat first | (refine And.intro ?_ ?_; first | exact rfl | ((exact fun h => absurd h (by first | decide | (rw [k0]; decide) | (rw [k1]; decide))); intro yy; clear yy) | (rotate_left; (exact fun h => absurd h (by first | decide | (rw [k0]; decide) | (rw [k1]; decide))); intro yy; clear yy) | decide | omega) | (with_reducible refine frc_bytesL (by first | omega | decide) ?_) | (with_reducible refine frc_bytesM (by first | omega | decide) ?_))
    have hJ2 := hJ (l ++ [y0]) hmemS (by omega)
    refine call_same (fn_ptake ⟨false, cK, 0, cK, joinI (l ++ [y0])⟩ (own_ok hcK (by omega))) [7] rfl (by (repeat first | exact trivial | refine ent1 ?_)) (by refine ⟨rfl, fun j hj => eqC_winBM (Nat.le_refl _), ?_⟩; (repeat first | exact trivial | refine ent1 ?_)) (fun _ _ => trivial) ?_
    rintro y hs' ⟨q2, e2, hq2, hqo2, rfl, rfl⟩
    obtain rfl : e2 = 18 := take_twice (by omega) (fun x hx => hItS _ hmemS x (List.mem_append.2 (.inl hx))) (hItS _ hmemS y0 (List.mem_append.2 (.inr (List.mem_singleton.2 rfl)))) hndl ⟨y0, hy0m, rfl⟩ hq2
    (repeat first | (refine And.intro ?_ ?_; first | exact rfl | ((exact fun h => absurd h (by first | decide | (rw [k0]; decide) | (rw [k1]; decide))); intro yy; clear yy) | (rotate_left; (exact fun h => absurd h (by first | decide | (rw [k0]; decide) | (rw [k1]; decide))); intro yy; clear yy) | decide | omega) | (with_reducible refine frc_bytesL (by first | omega | decide) ?_) | (with_reducible refine frc_bytesM (by first | omega | decide) ?_))
    refine .inr ⟨0, Nat × Option ((Nat → SC) × Nat), fun x' => match x' with
      | (i, none) => ⟨[.any, .any, .any, .any, .any, .any, .any, .any, .any, .any, .any, .any, .any, .any, .any, .any, .any, .any, .any, .any, .any, .any, .any, .any, .any, .a (.c (.int .i64 (18))), .a (.c (.slc none 0 0)), .any, .any, .any, .any, .any, .any, .any, .any, .any, .any, .any, .any, .any, .any, .any, .any, .any, .any, .any, .any, .any, .any, .any, .any, .any, .any, .any, .any, .any, .any, .any, .any, .any, .any, .any, .any, .any, .any, .any, .any, .any, .any, .any, .any, .any, .any, .any, .any, .any, .any, .any, .any, .any, .any, .any, .any, .any, .any, .any, .any, .any, .any, .any, .any, .any, .any, .any, .any, .any, .any, .any, .any, .any, .any, .any, .any, .any, .any, .any, .any, .any, .any, .any, .any, .any, .any, .any, .any, .any, .any, .any, .any, .any, .any, .any, .any, .any, .any, .any, .any, .any, .any, .any, .any, .any, .any, .any, .any, .any, .any, .any, .any, .any, .any, .any, .any, .any, .any, .any, .any, .any, .any, .any, .any, .any, .any, .any, .any, .any, .any, .any, .any, .any, .any, .any, .a (.c (.sl 1 0 0 n1 c1)), .a (.c (.int .i64 (↑n1))), .a (.c (.int .i64 (↑i))), .any, .any, .any, .any, .any, .any, .any, .any, .any, .any, .any, .any, .any, .any, .any, .any, .any, .any, .any, .any, .any, .any, .any, .any, .any, .any, .any, .any, .any, .any, .any, .any, .any, .any, .any, .any, .any, .any, .any, .any, .any, .any, .any, .any, .any, .any, .any, .any], [[.past W1 ms1], [.row (scale c1 (1 + 1)) (cutC n1 f), .row 0 (fun _ => SC.any)]]⟩
      | (i, some (g, cG)) => ⟨[.any, .any, .any, .any, .any, .any, .any, .any, .any, .any, .any, .any, .any, .any, .any, .any, .any, .any, .any, .any, .any, .any, .any, .any, .any, .a (.c (.int .i64 (18))), .a (.c (.sl 2 0 0 ((l.take i).filter not15).length cG)), .any, .any, .any, .any, .any, .any, .any, .any, .any, .any, .any, .any, .any, .any, .any, .any, .any, .any, .any, .any, .any, .any, .any, .any, .any, .any, .any, .any, .any, .any, .any, .any, .any, .any, .any, .any, .any, .any, .any, .any, .any, .any, .any, .any, .any, .any, .any, .any, .any, .any, .any, .any, .any, .any, .any, .any, .any, .any, .any, .any, .any, .any, .any, .any, .any, .any, .any, .any, .any, .any, .any, .any, .any, .any, .any, .any, .any, .any, .any, .any, .any, .any, .any, .any, .any, .any, .any, .any, .any, .any, .any, .any, .any, .any, .any, .any, .any, .any, .any, .any, .any, .any, .any, .any, .any, .any, .any, .any, .any, .any, .any, .any, .any, .any, .any, .any, .any, .any, .any, .any, .any, .any, .any, .any, .any, .any, .any, .any, .any, .any, .any, .any, .any, .any, .any, .a (.c (.sl 1 0 0 n1 c1)), .a (.c (.int .i64 (↑n1))), .a (.c (.int .i64 (↑i))), .any, .any, .any, .any, .any, .any, .any, .any, .any, .any, .any, .any, .any, .any, .any, .any, .any, .any, .any, .any, .any, .any, .any, .any, .any, .any, .any, .any, .any, .any, .any, .any, .any, .any, .any, .any, .any, .any, .any, .any, .any, .any, .any, .any, .any, .any, .any, .any], [[.past W1 ms1], [.row (scale c1 (1 + 1)) (cutC n1 f), .row 0 (fun _ => SC.any)], [.row (scale cG (1 + 1)) g]]⟩,
      fun x' => match x' with
      | (i, none) => i ≤ n1 ∧ (l.take i).filter not15 = []
      | (i, some (g, cG)) => i ≤ n1 ∧ ItF W1 ms1 g ((l.take i).filter not15) ∧ ((l.take i).filter not15).length ≤ cG ∧ 0 < ((l.take i).filter not15).length ∧ (∀ j, (g j).raw = g j),
      fun x' => n1 - x'.1, entW_ofI ⟨(0, none), [0, 2], ⟨⟨rfl, rfl, rfl⟩, ?_⟩, ⟨Nat.zero_le _, rfl⟩⟩, fun x' hp => ?_⟩
    · (repeat first | exact trivial | refine ent1 ?_)
      refine ⟨fun j _ => eqC_cut hF hll (fun j hj => upd_lo hj) j, ?_⟩
      (repeat first | exact trivial | refine ent1 ?_)
    have hFc := hF.cut hll
    obtain ⟨i, _ | ⟨g, cG⟩⟩ := x'
    · obtain ⟨hi, hM⟩ := hp
      refine And.intro (fun hlt => ?_) (fun hge => ?_)
      · have hlt : i < n1 := by have : (i : Int) < (n1 : Int) := of_decide_eq_true hlt; omega
        obtain ⟨e, he⟩ : ∃ e, l[i]? = some e := ⟨_, List.getElem?_eq_getElem (by omega)⟩
        obtain ⟨xE, qE0, qE1, hEv⟩ := hFc i e he
        have hts : l.take (i + 1) = l.take i ++ [e] := take_succ he
        (repeat first | (refine And.intro ?_ ?_; first | exact rfl | ((exact fun h => absurd h (by first | decide)); intro yy; clear yy) | (rotate_left; (exact fun h => absurd h (by first | decide)); intro yy; clear yy) | decide | omega) | (with_reducible refine frc_bytesL (by first | omega | decide) ?_) | (with_reducible refine frc_bytesM (by first | omega | decide) ?_))
        refine And.intro (show ((i : Nat) : Int).toNat * 2 + 0 < scale c1 (1 + 1) by rw [sc2]; omega) ?_
        refine And.intro (show ((i : Nat) : Int).toNat * 2 + 0 + 1 < scale c1 (1 + 1) by rw [sc2]; omega) ?_
        refine takeB_nilI ?_
        refine frc_atI (y := .slc xE.a xE.n xE.c) qE1 ?_
        refine frc_atI qE0 ?_
        by_cases h15 : e.id = 15#64
        · have k15 : decide (e.id ≠ 15#64) = false := decide_eq_false (fun h => h h15)
          have hf1 : (l.take (i + 1)).filter not15 = (l.take i).filter not15 := by
            rw [hts, List.filter_append]
            simp [not15, h15]
          (repeat first | (refine And.intro ?_ ?_; first | exact rfl | ((exact fun h => absurd h (by first | decide | (rw [k15]; decide))); intro yy; clear yy) | (rotate_left; (exact fun h => absurd h (by first | decide | (rw [k15]; decide))); intro yy; clear yy) | decide | omega) | (with_reducible refine frc_bytesL (by first | omega | decide) ?_) | (with_reducible refine frc_bytesM (by first | omega | decide) ?_))
          refine entW_ofI ⟨(i + 1, none), [0, 1], ⟨⟨rfl, rfl, rfl⟩, ?_⟩, ⟨⟨by omega, by rw [hf1]; exact hM⟩, (show n1 - (i + 1) < n1 - i by omega)⟩⟩
          (repeat first | exact trivial | refine ent1 ?_)
          refine ⟨fun j _ => eqC_rawI (cut_raw hraw j), ?_⟩
          (repeat first | exact trivial | refine ent1 ?_)
        · have k15 : decide (e.id ≠ 15#64) = true := decide_eq_true h15
          have hf1 : (l.take (i + 1)).filter not15 = (l.take i).filter not15 ++ [e] := by
            rw [hts, List.filter_append]
            simp [not15, h15]
          (repeat first | (refine And.intro ?_ ?_; first | exact rfl | ((exact fun h => absurd h (by first | decide | (rw [k15]; decide))); intro yy; clear yy) | (rotate_left; (exact fun h => absurd h (by first | decide | (rw [k15]; decide))); intro yy; clear yy) | decide | omega) | (with_reducible refine frc_bytesL (by first | omega | decide) ?_) | (with_reducible refine frc_bytesM (by first | omega | decide) ?_))
          refine And.intro (show 0 + 2 ≤ 2 by decide) ?_
          (repeat first | (refine And.intro ?_ ?_; first | exact rfl | ((exact fun h => absurd h (by first | decide | (rw [k15]; decide))); intro yy; clear yy) | (rotate_left; (exact fun h => absurd h (by first | decide | (rw [k15]; decide))); intro yy; clear yy) | decide | omega) | (with_reducible refine frc_bytesL (by first | omega | decide) ?_) | (with_reducible refine frc_bytesM (by first | omega | decide) ?_))
          intro cH hcH
          (repeat first | (refine And.intro ?_ ?_; first | exact rfl | ((exact fun h => absurd h (by first | decide | (rw [k15]; decide))); intro yy; clear yy) | (rotate_left; (exact fun h => absurd h (by first | decide | (rw [k15]; decide))); intro yy; clear yy) | decide | omega) | (with_reducible refine frc_bytesL (by first | omega | decide) ?_) | (with_reducible refine frc_bytesM (by first | omega | decide) ?_))
          refine entW_ofI ⟨(i + 1, some (snocF (fun _ => SC.any) 0 e.id xE, cH)), [0, 1, 4], ⟨⟨rfl, rfl, rfl⟩, ?_⟩, ⟨⟨by omega, by rw [hf1, hM]; exact ItF.nil.snoc rfl e.id hEv, by rw [hf1, hM]; exact hcH, by rw [hf1, hM]; exact Nat.one_pos, snoc_raw (fun j hj => absurd hj (by omega))⟩, (show n1 - (i + 1) < n1 - i by omega)⟩⟩
          (repeat first | exact trivial | refine ent1 ?_)
          refine And.intro (show 1 = ((l.take (i + 1)).filter not15).length by rw [hf1, hM]; rfl) ?_
          (repeat first | exact trivial | refine ent1 ?_)
          refine ⟨fun j _ => eqC_rawI (cut_raw hraw j), ?_⟩
          (repeat first | exact trivial | refine ent1 ?_)
          refine ⟨fun j _ => new_snocP rfl rfl _ j, ?_⟩
          (repeat first | exact trivial | refine ent1 ?_)
      · obtain rfl : n1 = i := by have : ¬ (i : Int) < (n1 : Int) := of_decide_eq_false hge; omega
        rw [← hll, List.take_length] at hM
        have hoI : (⟨100#64 + id, other⟩ : It) ∈ I0 := by rw [hI0]; exact List.mem_append.2 (.inr (List.mem_cons_of_mem _ (List.mem_cons_self ..)))
        have hof : (⟨100#64 + id, other⟩ : It) ∈ l.filter not15 := List.mem_filter.2 ⟨hP.mem_iff.2 hoI, by
          have h1 := other_id hid
          refine decide_eq_true fun hc => ?_
          have : (100#64 + id).toNat = (15#64 : BitVec 64).toNat := congrArg BitVec.toNat hc
          rw [h1, show (15#64 : BitVec 64).toNat = 15 from rfl] at this
          omega⟩
        rw [hM] at hof
        cases hof
    · obtain ⟨hi, hFg, hcG, hM0, hrg⟩ := hp
      refine And.intro (fun hlt => ?_) (fun hge => ?_)
      · have hlt : i < n1 := by have : (i : Int) < (n1 : Int) := of_decide_eq_true hlt; omega
        obtain ⟨e, he⟩ : ∃ e, l[i]? = some e := ⟨_, List.getElem?_eq_getElem (by omega)⟩
        have hfl := List.length_filter_le not15 (l.take i)
        rw [List.length_take] at hfl
        obtain ⟨xE, qE0, qE1, hEv⟩ := hFc i e he
        have hts : l.take (i + 1) = l.take i ++ [e] := take_succ he
        (repeat first | (refine And.intro ?_ ?_; first | exact rfl | ((exact fun h => absurd h (by first | decide)); intro yy; clear yy) | (rotate_left; (exact fun h => absurd h (by first | decide)); intro yy; clear yy) | decide | omega) | (with_reducible refine frc_bytesL (by first | omega | decide) ?_) | (with_reducible refine frc_bytesM (by first | omega | decide) ?_))
        refine And.intro (show ((i : Nat) : Int).toNat * 2 + 0 < scale c1 (1 + 1) by rw [sc2]; omega) ?_
        refine And.intro (show ((i : Nat) : Int).toNat * 2 + 0 + 1 < scale c1 (1 + 1) by rw [sc2]; omega) ?_
        refine takeB_nilI ?_
        refine frc_atI (y := .slc xE.a xE.n xE.c) qE1 ?_
        refine frc_atI qE0 ?_
        by_cases h15 : e.id = 15#64
        · have k15 : decide (e.id ≠ 15#64) = false := decide_eq_false (fun h => h h15)
          have hf1 : (l.take (i + 1)).filter not15 = (l.take i).filter not15 := by
            rw [hts, List.filter_append]
            simp [not15, h15]
          (repeat first | (refine And.intro ?_ ?_; first | exact rfl | ((exact fun h => absurd h (by first | decide | (rw [k15]; decide))); intro yy; clear yy) | (rotate_left; (exact fun h => absurd h (by first | decide | (rw [k15]; decide))); intro yy; clear yy) | decide | omega) | (with_reducible refine frc_bytesL (by first | omega | decide) ?_) | (with_reducible refine frc_bytesM (by first | omega | decide) ?_))
          refine entW_ofI ⟨(i + 1, some (g, cG)), [0, 1, 2], ⟨⟨rfl, rfl, rfl⟩, ?_⟩, ⟨⟨by omega, by rw [hf1]; exact hFg, by rw [hf1]; exact hcG, by rw [hf1]; exact hM0, hrg⟩, (show n1 - (i + 1) < n1 - i by omega)⟩⟩
          (repeat first | exact trivial | refine ent1 ?_)
          refine And.intro (show ((l.take i).filter not15).length = ((l.take (i + 1)).filter not15).length by rw [hf1]) ?_
          (repeat first | exact trivial | refine ent1 ?_)
          refine ⟨fun j _ => eqC_rawI (cut_raw hraw j), ?_⟩
          (repeat first | exact trivial | refine ent1 ?_)
          refine ⟨fun j _ => eqC_rawI (hrg j), ?_⟩
          (repeat first | exact trivial | refine ent1 ?_)
        · have k15 : decide (e.id ≠ 15#64) = true := decide_eq_true h15
          have hf1 : (l.take (i + 1)).filter not15 = (l.take i).filter not15 ++ [e] := by
            rw [hts, List.filter_append]
            simp [not15, h15]
          (repeat first | (refine And.intro ?_ ?_; first | exact rfl | ((exact fun h => absurd h (by first | decide | (rw [k15]; decide))); intro yy; clear yy) | (rotate_left; (exact fun h => absurd h (by first | decide | (rw [k15]; decide))); intro yy; clear yy) | decide | omega) | (with_reducible refine frc_bytesL (by first | omega | decide) ?_) | (with_reducible refine frc_bytesM (by first | omega | decide) ?_))
          refine And.intro (show 0 + 2 ≤ 2 by decide) ?_
          (repeat first | (refine And.intro ?_ ?_; first | exact rfl | ((exact fun h => absurd h (by first | decide | (rw [k15]; decide))); intro yy; clear yy) | (rotate_left; (exact fun h => absurd h (by first | decide | (rw [k15]; decide))); intro yy; clear yy) | decide | omega) | (with_reducible refine frc_bytesL (by first | omega | decide) ?_) | (with_reducible refine frc_bytesM (by first | omega | decide) ?_))
          refine And.intro ⟨hcG, Nat.le_of_eq (Nat.zero_add _), (show (((l.take i).filter not15).length + 1) * 32 ≤ 140737488355328 by omega)⟩ ?_
          intro cH hcH
          (repeat first | (refine And.intro ?_ ?_; first | exact rfl | ((exact fun h => absurd h (by first | decide | (rw [k15]; decide))); intro yy; clear yy) | (rotate_left; (exact fun h => absurd h (by first | decide | (rw [k15]; decide))); intro yy; clear yy) | decide | omega) | (with_reducible refine frc_bytesL (by first | omega | decide) ?_) | (with_reducible refine frc_bytesM (by first | omega | decide) ?_))
          refine entW_ofI ⟨(i + 1, some (snocF g ((l.take i).filter not15).length e.id xE, cH)), [0, 1, 5], ⟨⟨rfl, rfl, rfl⟩, ?_⟩, ⟨⟨by omega, by rw [hf1]; exact hFg.snoc rfl e.id hEv, by rw [hf1, List.length_append]; exact hcH, by rw [hf1, List.length_append]; show 0 < _ + 1; omega, snoc_raw (fun j _ => hrg j)⟩, (show n1 - (i + 1) < n1 - i by omega)⟩⟩
          (repeat first | exact trivial | refine ent1 ?_)
          refine And.intro (show ((l.take i).filter not15).length + 1 = ((l.take (i + 1)).filter not15).length by rw [hf1, List.length_append]; rfl) ?_
          (repeat first | exact trivial | refine ent1 ?_)
          refine ⟨fun j _ => eqC_rawI (cut_raw hraw j), ?_⟩
          (repeat first | exact trivial | refine ent1 ?_)
          refine ⟨fun j _ => app_snocP hrg (fun j => rfl) rfl rfl _ j, ?_⟩
          (repeat first | exact trivial | refine ent1 ?_)
      · obtain rfl : n1 = i := by have : ¬ (i : Int) < (n1 : Int) := of_decide_eq_false hge; omega
        have hlt : l.take n1 = l := by rw [← hll, List.take_length]
        rw [hlt] at hFg hcG hM0 ⊢
        have hmemM : ∀ x ∈ l.filter not15, x ∈ I0 := fun x hx => hmem x (List.mem_filter.1 hx).1
        have hflM := List.length_filter_le not15 l
        (repeat first | (refine And.intro ?_ ?_; first | exact rfl | ((exact fun h => absurd h (by first | decide)); intro yy; clear yy) | (rotate_left; (exact fun h => absurd h (by first | decide)); intro yy; clear yy) | decide | omega) | (with_reducible refine frc_bytesL (by first | omega | decide) ?_) | (with_reducible refine frc_bytesM (by first | omega | decide) ?_))
        refine call_lend [2] 0 [] rfl rfl (by (repeat first | exact trivial | refine ent1 ?_)) NoP.nil (fun _ _ => trivial) (fun W' ms' α hL' hI => ⟨[.c (.slc (some ((α 2).add (0 + 0))) (l.filter not15).length cG)], ?_, (fn_join (hFg.lend (F := fun j => memB j [2]) hL' rfl hcG (by omega) (fun j _ => rfl) flat_rowO (hI 2 rfl)) (by omega) (fun x hx => hid0 x (hmemM x hx)) (fun m hm hml => Nat.le_trans (hJ m (fun x hx => hmemM x (hm x hx)) (Nat.le_trans hml (by omega))) (by decide))).mono (Res' := fun y hs => ∃ c5, (joinI (l.filter not15)).length ≤ c5 ∧ y = .a (.c (.sl 1 0 0 (joinI (l.filter not15)).length c5)) ∧ hs.drop 1 = [lsC (joinI (l.filter not15)) c5]) (fun x hs hr => ?_)⟩) (fun x hs hr => ?_) ?_
        · (repeat first | exact trivial | refine ent1 ?_)
        · obtain ⟨c5, h5, rfl, rfl⟩ := hr
          exact ⟨c5, h5, rfl, rfl⟩
        · obtain ⟨c5, _, _, h1⟩ := hr
          rw [h1]
          exact NoP.cons (fun W ms h => by cases h) NoP.nil
        rintro y hs ⟨cM, hcM, rfl, hdrop⟩
        rw [hdrop]
        clear hdrop
        (repeat first | (refine And.intro ?_ ?_; first | exact rfl | ((exact fun h => absurd h (by first | decide)); intro yy; clear yy) | (rotate_left; (exact fun h => absurd h (by first | decide)); intro yy; clear yy) | decide | omega) | (with_reducible refine frc_bytesL (by first | omega | decide) ?_) | (with_reducible refine frc_bytesM (by first | omega | decide) ?_))
        have hJ3 := hJ (l.filter not15) hmemM (by omega)
        refine call_same (fn_ptake ⟨false, cM, 0, cM, joinI (l.filter not15)⟩ (own_ok hcM (by omega))) [3] rfl (by (repeat first | exact trivial | refine ent1 ?_)) (by refine ⟨rfl, fun j hj => eqC_winBM (Nat.le_refl _), ?_⟩; (repeat first | exact trivial | refine ent1 ?_)) (fun _ _ => trivial) ?_
        rintro y hs' ⟨q3, e3, hq3, hqo3, rfl, rfl⟩
        obtain rfl : e3 = 17 := take_none (by omega) (hItS _ hmemM) (((List.filter_sublist (p := not15) (l := l)).map It.id).nodup hndl) (fun x hx => of_decide_eq_true (List.mem_filter.1 hx).2) hq3
        (repeat first | (refine And.intro ?_ ?_; first | exact rfl | ((exact fun h => absurd h (by first | decide)); intro yy; clear yy) | (rotate_left; (exact fun h => absurd h (by first | decide)); intro yy; clear yy) | decide | omega) | (with_reducible refine frc_bytesL (by first | omega | decide) ?_) | (with_reducible refine frc_bytesM (by first | omega | decide) ?_))
        have hjn4 : ∀ m : List It, (∀ x ∈ m, x ∈ ([⟨15#64, []⟩, ⟨4#64, [1#8, 1#8]⟩] : List It)) → m.length ≤ 2 → (joinI m).length ≤ 1000000 := fun m hm hl => by
          have := joinI_le (B := 2) (l := m) (fun x hx => by
            have := hm x hx
            simp only [List.mem_cons, List.not_mem_nil, or_false] at this
            rcases this with rfl | rfl <;> decide)
          omega
        refine call_lend [6, 7] 0 [] rfl rfl (by (repeat first | exact trivial | refine ent1 ?_)) NoP.nil (fun _ _ => trivial) (fun W' ms' α hL' hI => ⟨[.c (.slc (some ((α 7).add (0 + 0))) 2 2)], ?_, (fn_join (l := [⟨15#64, []⟩, ⟨4#64, [1#8, 1#8]⟩]) (two_items (hI 7 rfl (fun e => absurd (show 4 = 0 from congrArg List.length e) (by decide))) rfl SlAt.nul (frzB (F := fun j => memB j [6, 7]) (l := [1#8, 1#8]) (hI 6 rfl) (fun j hj => by match j, hj with | 0, _ => rfl | 1, _ => rfl) (show (2 : Nat) ≤ 2 by decide) (show (2 : Nat) ≤ 9223372036854775807 by decide))) (by decide) (fun x hx => by
          simp only [List.mem_cons, List.not_mem_nil, or_false] at hx
          rcases hx with rfl | rfl <;> decide) hjn4).mono (Res' := fun y hs => ∃ c5, (joinI [⟨15#64, []⟩, ⟨4#64, [1#8, 1#8]⟩]).length ≤ c5 ∧ y = .a (.c (.sl 1 0 0 (joinI [⟨15#64, []⟩, ⟨4#64, [1#8, 1#8]⟩]).length c5)) ∧ hs.drop 1 = [lsC (joinI [⟨15#64, []⟩, ⟨4#64, [1#8, 1#8]⟩]) c5]) (fun x hs hr => ?_)⟩) (fun x hs hr => ?_) ?_
        · (repeat first | exact trivial | refine ent1 ?_)
        · obtain ⟨c5, h5, rfl, rfl⟩ := hr
          exact ⟨c5, h5, rfl, rfl⟩
        · obtain ⟨c5, _, _, h1⟩ := hr
          rw [h1]
          exact NoP.cons (fun W ms h => by cases h) NoP.nil
        rintro y hs ⟨cP, hcP, rfl, hdrop⟩
        rw [hdrop]
        clear hdrop
        have hjE4 : joinI [⟨15#64, []⟩, ⟨4#64, [1#8, 1#8]⟩] = [15#8, 0#8, 4#8, 2#8, 1#8, 1#8] := by decide +kernel
        rw [hjE4] at hcP ⊢
        (repeat first | (refine And.intro ?_ ?_; first | exact rfl | ((exact fun h => absurd h (by first | decide)); intro yy; clear yy) | (rotate_left; (exact fun h => absurd h (by first | decide)); intro yy; clear yy) | decide | omega) | (with_reducible refine frc_bytesL (by first | omega | decide) ?_) | (with_reducible refine frc_bytesM (by first | omega | decide) ?_))
        refine call_same (fn_ptake ⟨false, cP, 0, cP, [15#8, 0#8, 4#8, 2#8, 1#8, 1#8]⟩ (own_ok hcP (by decide))) [8] rfl (by (repeat first | exact trivial | refine ent1 ?_)) (by refine ⟨rfl, fun j hj => eqC_winBM (Nat.le_refl _), ?_⟩; (repeat first | exact trivial | refine ent1 ?_)) (fun _ _ => trivial) ?_
        rintro y hs' ⟨q4, e4, hq4, hqo4, rfl, rfl⟩
        obtain rfl : e4 = 24 := small_bad hq4
        (repeat first | (refine And.intro ?_ ?_; first | exact rfl | ((exact fun h => absurd h (by first | decide)); intro yy; clear yy) | (rotate_left; (exact fun h => absurd h (by first | decide)); intro yy; clear yy) | decide | omega) | (with_reducible refine frc_bytesL (by first | omega | decide) ?_) | (with_reducible refine frc_bytesM (by first | omega | decide) ?_))
        have hjn5 : ∀ m : List It, (∀ x ∈ m, x ∈ ([⟨15#64, []⟩, ⟨4#64, []⟩] : List It)) → m.length ≤ 2 → (joinI m).length ≤ 1000000 := fun m hm hl => by
          have := joinI_le (B := 2) (l := m) (fun x hx => by
            have := hm x hx
            simp only [List.mem_cons, List.not_mem_nil, or_false] at this
            rcases this with rfl | rfl <;> decide)
          omega
        refine call_lend [11] 0 [] rfl rfl (by (repeat first | exact trivial | refine ent1 ?_)) NoP.nil (fun _ _ => trivial) (fun W' ms' α hL' hI => ⟨[.c (.slc (some ((α 11).add (0 + 0))) 2 2)], ?_, (fn_join (l := [⟨15#64, []⟩, ⟨4#64, []⟩]) (two_items (hI 11 rfl (fun e => absurd (show 4 = 0 from congrArg List.length e) (by decide))) rfl SlAt.nul SlAt.nul) (by decide) (fun x hx => by
          simp only [List.mem_cons, List.not_mem_nil, or_false] at hx
          rcases hx with rfl | rfl <;> decide) hjn5).mono (Res' := fun y hs => ∃ c5, (joinI [⟨15#64, []⟩, ⟨4#64, []⟩]).length ≤ c5 ∧ y = .a (.c (.sl 1 0 0 (joinI [⟨15#64, []⟩, ⟨4#64, []⟩]).length c5)) ∧ hs.drop 1 = [lsC (joinI [⟨15#64, []⟩, ⟨4#64, []⟩]) c5]) (fun x hs hr => ?_)⟩) (fun x hs hr => ?_) ?_
        · (repeat first | exact trivial | refine ent1 ?_)
        · obtain ⟨c5, h5, rfl, rfl⟩ := hr
          exact ⟨c5, h5, rfl, rfl⟩
        · obtain ⟨c5, _, _, h1⟩ := hr
          rw [h1]
          exact NoP.cons (fun W ms h => by cases h) NoP.nil
        rintro y hs ⟨cQ, hcQ, rfl, hdrop⟩
        rw [hdrop]
        clear hdrop
        have hjE5 : joinI [⟨15#64, []⟩, ⟨4#64, []⟩] = [15#8, 0#8, 4#8, 0#8] := by decide +kernel
        rw [hjE5] at hcQ ⊢
        (repeat first | (refine And.intro ?_ ?_; first | exact rfl | ((exact fun h => absurd h (by first | decide)); intro yy; clear yy) | (rotate_left; (exact fun h => absurd h (by first | decide)); intro yy; clear yy) | decide | omega) | (with_reducible refine frc_bytesL (by first | omega | decide) ?_) | (with_reducible refine frc_bytesM (by first | omega | decide) ?_))
        refine call_same (fn_ptake ⟨false, cQ, 0, cQ, [15#8, 0#8, 4#8, 0#8]⟩ (own_ok hcQ (by decide))) [12] rfl (by (repeat first | exact trivial | refine ent1 ?_)) (by refine ⟨rfl, fun j hj => eqC_winBM (Nat.le_refl _), ?_⟩; (repeat first | exact trivial | refine ent1 ?_)) (fun _ _ => trivial) ?_
        rintro y hs' ⟨q5, e5, hq5, hqo5, rfl, rfl⟩
        obtain rfl : e5 = 3 := (small_short hq5).trans (by decide +kernel)
        have k18 : decide ((18 : Int) = 18) = true := by decide
        have k17 : decide ((17 : Int) = 17) = true := by decide
        have k24 : decide ((24 : Int) = 24) = true := by decide
        have k3 : decide ((3 : Int) = 3) = true := by decide
        (repeat first | (refine And.intro ?_ ?_; first | exact rfl | ((exact fun h => absurd h (by first | decide | (rw [k18]; decide) | (rw [k17]; decide) | (rw [k24]; decide) | (rw [k3]; decide))); intro yy; clear yy) | (rotate_left; (exact fun h => absurd h (by first | decide | (rw [k18]; decide) | (rw [k17]; decide) | (rw [k24]; decide) | (rw [k3]; decide))); intro yy; clear yy) | decide | omega) | (with_reducible refine frc_bytesL (by first | omega | decide) ?_) | (with_reducible refine frc_bytesM (by first | omega | decide) ?_))
        refine ⟨.a (.c (.bool true)), [[.past W1 ms1]], ⟨[0], ⟨rfl, rfl, rfl⟩, ?_⟩, rfl⟩
        (repeat first | exact trivial | refine ent1 ?_)
  · (repeat first | (refine And.intro ?_ ?_; first | exact rfl | ((exact fun h => absurd h (by first | decide | (rw [k0]; decide) | (rw [k1]; decide))); intro yy; clear yy) | (rotate_left; (exact fun h => absurd h (by first | decide | (rw [k0]; decide) | (rw [k1]; decide))); intro yy; clear yy) | decide | omega) | (with_reducible refine frc_bytesL (by first | omega | decide) ?_) | (with_reducible refine frc_bytesM (by first | omega | decide) ?_))
    refine call_lend [7] 0 [] rfl rfl (by (repeat first | exact trivial | refine ent1 ?_)) NoP.nil (fun _ _ => trivial) (fun W' ms' α hL' hI => ⟨[.c (.slc (some ((α 7).add (0 + 0))) (n1 + 1) c9)], ?_, (fn_join (hFS.lend (F := fun j => memB j [7]) hL' hlS hc9 (by omega) (fun j hj => app_snocE (fun _ => rfl) rfl rfl j hj) flat_rowO (hI 7 rfl)) (by omega) (fun x hx => hid0 x (hmemS x hx)) (fun m hm hml => Nat.le_trans (hJ m (fun x hx => hmemS x (hm x hx)) (Nat.le_trans hml (by omega))) (by decide))).mono (Res' := fun y hs => ∃ c5, (joinI (l ++ [y0])).length ≤ c5 ∧ y = .a (.c (.sl 1 0 0 (joinI (l ++ [y0])).length c5)) ∧ hs.drop 1 = [lsC (joinI (l ++ [y0])) c5]) (fun x hs hr => ?_)⟩) (fun x hs hr => ?_) ?_
    · (repeat first | exact trivial | refine ent1 ?_)
    · obtain ⟨c5, h5, rfl, rfl⟩ := hr
      exact ⟨c5, h5, rfl, rfl⟩
    · obtain ⟨c5, _, _, h1⟩ := hr
      rw [h1]
      exact NoP.cons (fun W ms h => by cases h) NoP.nil
    rintro y hs ⟨cK, hcK, rfl, hdrop⟩
    rw [hdrop]
    clear hdrop
    (repeat first | (refine And.intro ?_ ?_; first | exact rfl | ((exact fun h => absurd h (by first | decide | (rw [k0]; decide) | (rw [k1]; decide))); intro yy; clear yy) | (rotate_left; (exact fun h => absurd h (by first | decide | (rw [k0]; decide) | (rw [k1]; decide))); intro yy; clear yy) | decide | omega) | (with_reducible refine frc_bytesL (by first | omega | decide) ?_) | (with_reducible refine frc_bytesM (by first | omega | decide) ?_))
    have hJ2 := hJ (l ++ [y0]) hmemS (by omega)
    refine call_same (fn_ptake ⟨false, cK, 0, cK, joinI (l ++ [y0])⟩ (own_ok hcK (by omega))) [8] rfl (by (repeat first | exact trivial | refine ent1 ?_)) (by refine ⟨rfl, fun j hj => eqC_winBM (Nat.le_refl _), ?_⟩; (repeat first | exact trivial | refine ent1 ?_)) (fun _ _ => trivial) ?_
    rintro y hs' ⟨q2, e2, hq2, hqo2, rfl, rfl⟩
    obtain rfl : e2 = 18 := take_twice (by omega) (fun x hx => hItS _ hmemS x (List.mem_append.2 (.inl hx))) (hItS _ hmemS y0 (List.mem_append.2 (.inr (List.mem_singleton.2 rfl)))) hndl ⟨y0, hy0m, rfl⟩ hq2
    (repeat first | (refine And.intro ?_ ?_; first | exact rfl | ((exact fun h => absurd h (by first | decide | (rw [k0]; decide) | (rw [k1]; decide))); intro yy; clear yy) | (rotate_left; (exact fun h => absurd h (by first | decide | (rw [k0]; decide) | (rw [k1]; decide))); intro yy; clear yy) | decide | omega) | (with_reducible refine frc_bytesL (by first | omega | decide) ?_) | (with_reducible refine frc_bytesM (by first | omega | decide) ?_))
    refine .inr ⟨0, Nat × Option ((Nat → SC) × Nat), fun x' => match x' with
      | (i, none) => ⟨[.any, .any, .any, .any, .any, .any, .any, .any, .any, .any, .any, .any, .any, .any, .any, .any, .any, .any, .any, .any, .any, .any, .any, .any, .any, .a (.c (.int .i64 (18))), .a (.c (.slc none 0 0)), .any, .any, .any, .any, .any, .any, .any, .any, .any, .any, .any, .any, .any, .any, .any, .any, .any, .any, .any, .any, .any, .any, .any, .any, .any, .any, .any, .any, .any, .any, .any, .any, .any, .any, .any, .any, .any, .any, .any, .any, .any, .any, .any, .any, .any, .any, .any, .any, .any, .any, .any, .any, .any, .any, .any, .any, .any, .any, .any, .any, .any, .any, .any, .any, .any, .any, .any, .any, .any, .any, .any, .any, .any, .any, .any, .any, .any, .any, .any, .any, .any, .any, .any, .any, .any, .any, .any, .any, .any, .any, .any, .any, .any, .any, .any, .any, .any, .any, .any, .any, .any, .any, .any, .any, .any, .any, .any, .any, .any, .any, .any, .any, .any, .any, .any, .any, .any, .any, .any, .any, .any, .any, .any, .any, .any, .any, .any, .any, .any, .any, .any, .any, .any, .any, .any, .a (.c (.sl 1 0 0 n1 c1)), .a (.c (.int .i64 (↑n1))), .a (.c (.int .i64 (↑i))), .any, .any, .any, .any, .any, .any, .any, .any, .any, .any, .any, .any, .any, .any, .any, .any, .any, .any, .any, .any, .any, .any, .any, .any, .any, .any, .any, .any, .any, .any, .any, .any, .any, .any, .any, .any, .any, .any, .any, .any, .any, .any, .any, .any, .any, .any, .any, .any], [[.past W1 ms1], [.row (scale c1 (1 + 1)) (cutC n1 f), .row 0 (fun _ => SC.any)]]⟩
      | (i, some (g, cG)) => ⟨[.any, .any, .any, .any, .any, .any, .any, .any, .any, .any, .any, .any, .any, .any, .any, .any, .any, .any, .any, .any, .any, .any, .any, .any, .any, .a (.c (.int .i64 (18))), .a (.c (.sl 2 0 0 ((l.take i).filter not15).length cG)), .any, .any, .any, .any, .any, .any, .any, .any, .any, .any, .any, .any, .any, .any, .any, .any, .any, .any, .any, .any, .any, .any, .any, .any, .any, .any, .any, .any, .any, .any, .any, .any, .any, .any, .any, .any, .any, .any, .any, .any, .any, .any, .any, .any, .any, .any, .any, .any, .any, .any, .any, .any, .any, .any, .any, .any, .any, .any, .any, .any, .any, .any, .any, .any, .any, .any, .any, .any, .any, .any, .any, .any, .any, .any, .any, .any, .any, .any, .any, .any, .any, .any, .any, .any, .any, .any, .any, .any, .any, .any, .any, .any, .any, .any, .any, .any, .any, .any, .any, .any, .any, .any, .any, .any, .any, .any, .any, .any, .any, .any, .any, .any, .any, .any, .any, .any, .any, .any, .any, .any, .any, .any, .any, .any, .any, .any, .any, .any, .any, .any, .any, .any, .any, .any, .any, .a (.c (.sl 1 0 0 n1 c1)), .a (.c (.int .i64 (↑n1))), .a (.c (.int .i64 (↑i))), .any, .any, .any, .any, .any, .any, .any, .any, .any, .any, .any, .any, .any, .any, .any, .any, .any, .any, .any, .any, .any, .any, .any, .any, .any, .any, .any, .any, .any, .any, .any, .any, .any, .any, .any, .any, .any, .any, .any, .any, .any, .any, .any, .any, .any, .any, .any, .any], [[.past W1 ms1], [.row (scale c1 (1 + 1)) (cutC n1 f), .row 0 (fun _ => SC.any)], [.row (scale cG (1 + 1)) g]]⟩,
      fun x' => match x' with
      | (i, none) => i ≤ n1 ∧ (l.take i).filter not15 = []
      | (i, some (g, cG)) => i ≤ n1 ∧ ItF W1 ms1 g ((l.take i).filter not15) ∧ ((l.take i).filter not15).length ≤ cG ∧ 0 < ((l.take i).filter not15).length ∧ (∀ j, (g j).raw = g j),
      fun x' => n1 - x'.1, entW_ofI ⟨(0, none), [0, 2], ⟨⟨rfl, rfl, rfl⟩, ?_⟩, ⟨Nat.zero_le _, rfl⟩⟩, fun x' hp => ?_⟩
    · (repeat first | exact trivial | refine ent1 ?_)
      refine ⟨fun j _ => eqC_cut hF hll (fun j hj => rfl) j, ?_⟩
      (repeat first | exact trivial | refine ent1 ?_)
    have hFc := hF.cut hll
    obtain ⟨i, _ | ⟨g, cG⟩⟩ := x'
    · obtain ⟨hi, hM⟩ := hp
      refine And.intro (fun hlt => ?_) (fun hge => ?_)
      · have hlt : i < n1 := by have : (i : Int) < (n1 : Int) := of_decide_eq_true hlt; omega
        obtain ⟨e, he⟩ : ∃ e, l[i]? = some e := ⟨_, List.getElem?_eq_getElem (by omega)⟩
        obtain ⟨xE, qE0, qE1, hEv⟩ := hFc i e he
        have hts : l.take (i + 1) = l.take i ++ [e] := take_succ he
        (repeat first | (refine And.intro ?_ ?_; first | exact rfl | ((exact fun h => absurd h (by first | decide)); intro yy; clear yy) | (rotate_left; (exact fun h => absurd h (by first | decide)); intro yy; clear yy) | decide | omega) | (with_reducible refine frc_bytesL (by first | omega | decide) ?_) | (with_reducible refine frc_bytesM (by first | omega | decide) ?_))
        refine And.intro (show ((i : Nat) : Int).toNat * 2 + 0 < scale c1 (1 + 1) by rw [sc2]; omega) ?_
        refine And.intro (show ((i : Nat) : Int).toNat * 2 + 0 + 1 < scale c1 (1 + 1) by rw [sc2]; omega) ?_
        refine takeB_nilI ?_
        refine frc_atI (y := .slc xE.a xE.n xE.c) qE1 ?_
        refine frc_atI qE0 ?_
        by_cases h15 : e.id = 15#64
        · have k15 : decide (e.id ≠ 15#64) = false := decide_eq_false (fun h => h h15)
          have hf1 : (l.take (i + 1)).filter not15 = (l.take i).filter not15 := by
            rw [hts, List.filter_append]
            simp [not15, h15]
          (repeat first | (refine And.intro ?_ ?_; first | exact rfl | ((exact fun h => absurd h (by first | decide | (rw [k15]; decide))); intro yy; clear yy) | (rotate_left; (exact fun h => absurd h (by first | decide | (rw [k15]; decide))); intro yy; clear yy) | decide | omega) | (with_reducible refine frc_bytesL (by first | omega | decide) ?_) | (with_reducible refine frc_bytesM (by first | omega | decide) ?_))
          refine entW_ofI ⟨(i + 1, none), [0, 1], ⟨⟨rfl, rfl, rfl⟩, ?_⟩, ⟨⟨by omega, by rw [hf1]; exact hM⟩, (show n1 - (i + 1) < n1 - i by omega)⟩⟩
          (repeat first | exact trivial | refine ent1 ?_)
          refine ⟨fun j _ => eqC_rawI (cut_raw hraw j), ?_⟩
          (repeat first | exact trivial | refine ent1 ?_)
        · have k15 : decide (e.id ≠ 15#64) = true := decide_eq_true h15
          have hf1 : (l.take (i + 1)).filter not15 = (l.take i).filter not15 ++ [e] := by
            rw [hts, List.filter_append]
            simp [not15, h15]
          (repeat first | (refine And.intro ?_ ?_; first | exact rfl | ((exact fun h => absurd h (by first | decide | (rw [k15]; decide))); intro yy; clear yy) | (rotate_left; (exact fun h => absurd h (by first | decide | (rw [k15]; decide))); intro yy; clear yy) | decide | omega) | (with_reducible refine frc_bytesL (by first | omega | decide) ?_) | (with_reducible refine frc_bytesM (by first | omega | decide) ?_))
          refine And.intro (show 0 + 2 ≤ 2 by decide) ?_
          (repeat first | (refine And.intro ?_ ?_; first | exact rfl | ((exact fun h => absurd h (by first | decide | (rw [k15]; decide))); intro yy; clear yy) | (rotate_left; (exact fun h => absurd h (by first | decide | (rw [k15]; decide))); intro yy; clear yy) | decide | omega) | (with_reducible refine frc_bytesL (by first | omega | decide) ?_) | (with_reducible refine frc_bytesM (by first | omega | decide) ?_))
          intro cH hcH
          (repeat first | (refine And.intro ?_ ?_; first | exact rfl | ((exact fun h => absurd h (by first | decide | (rw [k15]; decide))); intro yy; clear yy) | (rotate_left; (exact fun h => absurd h (by first | decide | (rw [k15]; decide))); intro yy; clear yy) | decide | omega) | (with_reducible refine frc_bytesL (by first | omega | decide) ?_) | (with_reducible refine frc_bytesM (by first | omega | decide) ?_))
          refine entW_ofI ⟨(i + 1, some (snocF (fun _ => SC.any) 0 e.id xE, cH)), [0, 1, 4], ⟨⟨rfl, rfl, rfl⟩, ?_⟩, ⟨⟨by omega, by rw [hf1, hM]; exact ItF.nil.snoc rfl e.id hEv, by rw [hf1, hM]; exact hcH, by rw [hf1, hM]; exact Nat.one_pos, snoc_raw (fun j hj => absurd hj (by omega))⟩, (show n1 - (i + 1) < n1 - i by omega)⟩⟩
          (repeat first | exact trivial | refine ent1 ?_)
          refine And.intro (show 1 = ((l.take (i + 1)).filter not15).length by rw [hf1, hM]; rfl) ?_
          (repeat first | exact trivial | refine ent1 ?_)
          refine ⟨fun j _ => eqC_rawI (cut_raw hraw j), ?_⟩
          (repeat first | exact trivial | refine ent1 ?_)
          refine ⟨fun j _ => new_snocP rfl rfl _ j, ?_⟩
          (repeat first | exact trivial | refine ent1 ?_)
      · obtain rfl : n1 = i := by have : ¬ (i : Int) < (n1 : Int) := of_decide_eq_false hge; omega
        rw [← hll, List.take_length] at hM
        have hoI : (⟨100#64 + id, other⟩ : It) ∈ I0 := by rw [hI0]; exact List.mem_append.2 (.inr (List.mem_cons_of_mem _ (List.mem_cons_self ..)))
        have hof : (⟨100#64 + id, other⟩ : It) ∈ l.filter not15 := List.mem_filter.2 ⟨hP.mem_iff.2 hoI, by
          have h1 := other_id hid
          refine decide_eq_true fun hc => ?_
          have : (100#64 + id).toNat = (15#64 : BitVec 64).toNat := congrArg BitVec.toNat hc
          rw [h1, show (15#64 : BitVec 64).toNat = 15 from rfl] at this
          omega⟩
        rw [hM] at hof
        cases hof
    · obtain ⟨hi, hFg, hcG, hM0, hrg⟩ := hp
      refine And.intro (fun hlt => ?_) (fun hge => ?_)
      · have hlt : i < n1 := by have : (i : Int) < (n1 : Int) := of_decide_eq_true hlt; omega
        obtain ⟨e, he⟩ : ∃ e, l[i]? = some e := ⟨_, List.getElem?_eq_getElem (by omega)⟩
        have hfl := List.length_filter_le not15 (l.take i)
        rw [List.length_take] at hfl
        obtain ⟨xE, qE0, qE1, hEv⟩ := hFc i e he
        have hts : l.take (i + 1) = l.take i ++ [e] := take_succ he
        (repeat first | (refine And.intro ?_ ?_; first | exact rfl | ((exact fun h => absurd h (by first | decide)); intro yy; clear yy) | (rotate_left; (exact fun h => absurd h (by first | decide)); intro yy; clear yy) | decide | omega) | (with_reducible refine frc_bytesL (by first | omega | decide) ?_) | (with_reducible refine frc_bytesM (by first | omega | decide) ?_))
        refine And.intro (show ((i : Nat) : Int).toNat * 2 + 0 < scale c1 (1 + 1) by rw [sc2]; omega) ?_
        refine And.intro (show ((i : Nat) : Int).toNat * 2 + 0 + 1 < scale c1 (1 + 1) by rw [sc2]; omega) ?_
        refine takeB_nilI ?_
        refine frc_atI (y := .slc xE.a xE.n xE.c) qE1 ?_
        refine frc_atI qE0 ?_
        by_cases h15 : e.id = 15#64
        · have k15 : decide (e.id ≠ 15#64) = false := decide_eq_false (fun h => h h15)
          have hf1 : (l.take (i + 1)).filter not15 = (l.take i).filter not15 := by
            rw [hts, List.filter_append]
            simp [not15, h15]
          (repeat first | (refine And.intro ?_ ?_; first | exact rfl | ((exact fun h => absurd h (by first | decide | (rw [k15]; decide))); intro yy; clear yy) | (rotate_left; (exact fun h => absurd h (by first | decide | (rw [k15]; decide))); intro yy; clear yy) | decide | omega) | (with_reducible refine frc_bytesL (by first | omega | decide) ?_) | (with_reducible refine frc_bytesM (by first | omega | decide) ?_))
          refine entW_ofI ⟨(i + 1, some (g, cG)), [0, 1, 2], ⟨⟨rfl, rfl, rfl⟩, ?_⟩, ⟨⟨by omega, by rw [hf1]; exact hFg, by rw [hf1]; exact hcG, by rw [hf1]; exact hM0, hrg⟩, (show n1 - (i + 1) < n1 - i by omega)⟩⟩
          (repeat first | exact trivial | refine ent1 ?_)
          refine And.intro (show ((l.take i).filter not15).length = ((l.take (i + 1)).filter not15).length by rw [hf1]) ?_
          (repeat first | exact trivial | refine ent1 ?_)
          refine ⟨fun j _ => eqC_rawI (cut_raw hraw j), ?_⟩
          (repeat first | exact trivial | refine ent1 ?_)
          refine ⟨fun j _ => eqC_rawI (hrg j), ?_⟩
          (repeat first | exact trivial | refine ent1 ?_)
        · have k15 : decide (e.id ≠ 15#64) = true := decide_eq_true h15
          have hf1 : (l.take (i + 1)).filter not15 = (l.take i).filter not15 ++ [e] := by
            rw [hts, List.filter_append]
            simp [not15, h15]
          (repeat first | (refine And.intro ?_ ?_; first | exact rfl | ((exact fun h => absurd h (by first | decide | (rw [k15]; decide))); intro yy; clear yy) | (rotate_left; (exact fun h => absurd h (by first | decide | (rw [k15]; decide))); intro yy; clear yy) | decide | omega) | (with_reducible refine frc_bytesL (by first | omega | decide) ?_) | (with_reducible refine frc_bytesM (by first | omega | decide) ?_))
          refine And.intro (show 0 + 2 ≤ 2 by decide) ?_
          (repeat first | (refine And.intro ?_ ?_; first | exact rfl | ((exact fun h => absurd h (by first | decide | (rw [k15]; decide))); intro yy; clear yy) | (rotate_left; (exact fun h => absurd h (by first | decide | (rw [k15]; decide))); intro yy; clear yy) | decide | omega) | (with_reducible refine frc_bytesL (by first | omega | decide) ?_) | (with_reducible refine frc_bytesM (by first | omega | decide) ?_))
          refine And.intro ⟨hcG, Nat.le_of_eq (Nat.zero_add _), (show (((l.take i).filter not15).length + 1) * 32 ≤ 140737488355328 by omega)⟩ ?_
          intro cH hcH
          (repeat first | (refine And.intro ?_ ?_; first | exact rfl | ((exact fun h => absurd h (by first | decide | (rw [k15]; decide))); intro yy; clear yy) | (rotate_left; (exact fun h => absurd h (by first | decide | (rw [k15]; decide))); intro yy; clear yy) | decide | omega) | (with_reducible refine frc_bytesL (by first | omega | decide) ?_) | (with_reducible refine frc_bytesM (by first | omega | decide) ?_))
          refine entW_ofI ⟨(i + 1, some (snocF g ((l.take i).filter not15).length e.id xE, cH)), [0, 1, 5], ⟨⟨rfl, rfl, rfl⟩, ?_⟩, ⟨⟨by omega, by rw [hf1]; exact hFg.snoc rfl e.id hEv, by rw [hf1, List.length_append]; exact hcH, by rw [hf1, List.length_append]; show 0 < _ + 1; omega, snoc_raw (fun j _ => hrg j)⟩, (show n1 - (i + 1) < n1 - i by omega)⟩⟩
          (repeat first | exact trivial | refine ent1 ?_)
          refine And.intro (show ((l.take i).filter not15).length + 1 = ((l.take (i + 1)).filter not15).length by rw [hf1, List.length_append]; rfl) ?_
          (repeat first | exact trivial | refine ent1 ?_)
          refine ⟨fun j _ => eqC_rawI (cut_raw hraw j), ?_⟩
          (repeat first | exact trivial | refine ent1 ?_)
          refine ⟨fun j _ => app_snocP hrg (fun j => rfl) rfl rfl _ j, ?_⟩
          (repeat first | exact trivial | refine ent1 ?_)
      · obtain rfl : n1 = i := by have : ¬ (i : Int) < (n1 : Int) := of_decide_eq_false hge; omega
        have hlt : l.take n1 = l := by rw [← hll, List.take_length]
        rw [hlt] at hFg hcG hM0 ⊢
        have hmemM : ∀ x ∈ l.filter not15, x ∈ I0 := fun x hx => hmem x (List.mem_filter.1 hx).1
        have hflM := List.length_filter_le not15 l
        (repeat first | (refine And.intro ?_ ?_; first | exact rfl | ((exact fun h => absurd h (by first | decide)); intro yy; clear yy) | (rotate_left; (exact fun h => absurd h (by first | decide)); intro yy; clear yy) | decide | omega) | (with_reducible refine frc_bytesL (by first | omega | decide) ?_) | (with_reducible refine frc_bytesM (by first | omega | decide) ?_))
        refine call_lend [2] 0 [] rfl rfl (by (repeat first | exact trivial | refine ent1 ?_)) NoP.nil (fun _ _ => trivial) (fun W' ms' α hL' hI => ⟨[.c (.slc (some ((α 2).add (0 + 0))) (l.filter not15).length cG)], ?_, (fn_join (hFg.lend (F := fun j => memB j [2]) hL' rfl hcG (by omega) (fun j _ => rfl) flat_rowO (hI 2 rfl)) (by omega) (fun x hx => hid0 x (hmemM x hx)) (fun m hm hml => Nat.le_trans (hJ m (fun x hx => hmemM x (hm x hx)) (Nat.le_trans hml (by omega))) (by decide))).mono (Res' := fun y hs => ∃ c5, (joinI (l.filter not15)).length ≤ c5 ∧ y = .a (.c (.sl 1 0 0 (joinI (l.filter not15)).length c5)) ∧ hs.drop 1 = [lsC (joinI (l.filter not15)) c5]) (fun x hs hr => ?_)⟩) (fun x hs hr => ?_) ?_
        · (repeat first | exact trivial | refine ent1 ?_)
        · obtain ⟨c5, h5, rfl, rfl⟩ := hr
          exact ⟨c5, h5, rfl, rfl⟩
        · obtain ⟨c5, _, _, h1⟩ := hr
          rw [h1]
          exact NoP.cons (fun W ms h => by cases h) NoP.nil
        rintro y hs ⟨cM, hcM, rfl, hdrop⟩
        rw [hdrop]
        clear hdrop
        (repeat first | (refine And.intro ?_ ?_; first | exact rfl | ((exact fun h => absurd h (by first | decide)); intro yy; clear yy) | (rotate_left; (exact fun h => absurd h (by first | decide)); intro yy; clear yy) | decide | omega) | (with_reducible refine frc_bytesL (by first | omega | decide) ?_) | (with_reducible refine frc_bytesM (by first | omega | decide) ?_))
        have hJ3 := hJ (l.filter not15) hmemM (by omega)
        refine call_same (fn_ptake ⟨false, cM, 0, cM, joinI (l.filter not15)⟩ (own_ok hcM (by omega))) [3] rfl (by (repeat first | exact trivial | refine ent1 ?_)) (by refine ⟨rfl, fun j hj => eqC_winBM (Nat.le_refl _), ?_⟩; (repeat first | exact trivial | refine ent1 ?_)) (fun _ _ => trivial) ?_
        rintro y hs' ⟨q3, e3, hq3, hqo3, rfl, rfl⟩
        obtain rfl : e3 = 17 := take_none (by omega) (hItS _ hmemM) (((List.filter_sublist (p := not15) (l := l)).map It.id).nodup hndl) (fun x hx => of_decide_eq_true (List.mem_filter.1 hx).2) hq3
        (repeat first | (refine And.intro ?_ ?_; first | exact rfl | ((exact fun h => absurd h (by first | decide)); intro yy; clear yy) | (rotate_left; (exact fun h => absurd h (by first | decide)); intro yy; clear yy) | decide | omega) | (with_reducible refine frc_bytesL (by first | omega | decide) ?_) | (with_reducible refine frc_bytesM (by first | omega | decide) ?_))
        have hjn4 : ∀ m : List It, (∀ x ∈ m, x ∈ ([⟨15#64, []⟩, ⟨4#64, [1#8, 1#8]⟩] : List It)) → m.length ≤ 2 → (joinI m).length ≤ 1000000 := fun m hm hl => by
          have := joinI_le (B := 2) (l := m) (fun x hx => by
            have := hm x hx
            simp only [List.mem_cons, List.not_mem_nil, or_false] at this
            rcases this with rfl | rfl <;> decide)
          omega
        refine call_lend [6, 7] 0 [] rfl rfl (by (repeat first | exact trivial | refine ent1 ?_)) NoP.nil (fun _ _ => trivial) (fun W' ms' α hL' hI => ⟨[.c (.slc (some ((α 7).add (0 + 0))) 2 2)], ?_, (fn_join (l := [⟨15#64, []⟩, ⟨4#64, [1#8, 1#8]⟩]) (two_items (hI 7 rfl (fun e => absurd (show 4 = 0 from congrArg List.length e) (by decide))) rfl SlAt.nul (frzB (F := fun j => memB j [6, 7]) (l := [1#8, 1#8]) (hI 6 rfl) (fun j hj => by match j, hj with | 0, _ => rfl | 1, _ => rfl) (show (2 : Nat) ≤ 2 by decide) (show (2 : Nat) ≤ 9223372036854775807 by decide))) (by decide) (fun x hx => by
          simp only [List.mem_cons, List.not_mem_nil, or_false] at hx
          rcases hx with rfl | rfl <;> decide) hjn4).mono (Res' := fun y hs => ∃ c5, (joinI [⟨15#64, []⟩, ⟨4#64, [1#8, 1#8]⟩]).length ≤ c5 ∧ y = .a (.c (.sl 1 0 0 (joinI [⟨15#64, []⟩, ⟨4#64, [1#8, 1#8]⟩]).length c5)) ∧ hs.drop 1 = [lsC (joinI [⟨15#64, []⟩, ⟨4#64, [1#8, 1#8]⟩]) c5]) (fun x hs hr => ?_)⟩) (fun x hs hr => ?_) ?_
        · (repeat first | exact trivial | refine ent1 ?_)
        · obtain ⟨c5, h5, rfl, rfl⟩ := hr
          exact ⟨c5, h5, rfl, rfl⟩
        · obtain ⟨c5, _, _, h1⟩ := hr
          rw [h1]
          exact NoP.cons (fun W ms h => by cases h) NoP.nil
        rintro y hs ⟨cP, hcP, rfl, hdrop⟩
        rw [hdrop]
        clear hdrop
        have hjE4 : joinI [⟨15#64, []⟩, ⟨4#64, [1#8, 1#8]⟩] = [15#8, 0#8, 4#8, 2#8, 1#8, 1#8] := by decide +kernel
        rw [hjE4] at hcP ⊢
        (repeat first | (refine And.intro ?_ ?_; first | exact rfl | ((exact fun h => absurd h (by first | decide)); intro yy; clear yy) | (rotate_left; (exact fun h => absurd h (by first | decide)); intro yy; clear yy) | decide | omega) | (with_reducible refine frc_bytesL (by first | omega | decide) ?_) | (with_reducible refine frc_bytesM (by first | omega | decide) ?_))
        refine call_same (fn_ptake ⟨false, cP, 0, cP, [15#8, 0#8, 4#8, 2#8, 1#8, 1#8]⟩ (own_ok hcP (by decide))) [8] rfl (by (repeat first | exact trivial | refine ent1 ?_)) (by refine ⟨rfl, fun j hj => eqC_winBM (Nat.le_refl _), ?_⟩; (repeat first | exact trivial | refine ent1 ?_)) (fun _ _ => trivial) ?_
        rintro y hs' ⟨q4, e4, hq4, hqo4, rfl, rfl⟩
        obtain rfl : e4 = 24 := small_bad hq4
        (repeat first | (refine And.intro ?_ ?_; first | exact rfl | ((exact fun h => absurd h (by first | decide)); intro yy; clear yy) | (rotate_left; (exact fun h => absurd h (by first | decide)); intro yy; clear yy) | decide | omega) | (with_reducible refine frc_bytesL (by first | omega | decide) ?_) | (with_reducible refine frc_bytesM (by first | omega | decide) ?_))
        have hjn5 : ∀ m : List It, (∀ x ∈ m, x ∈ ([⟨15#64, []⟩, ⟨4#64, []⟩] : List It)) → m.length ≤ 2 → (joinI m).length ≤ 1000000 := fun m hm hl => by
          have := joinI_le (B := 2) (l := m) (fun x hx => by
            have := hm x hx
            simp only [List.mem_cons, List.not_mem_nil, or_false] at this
            rcases this with rfl | rfl <;> decide)
          omega
        refine call_lend [11] 0 [] rfl rfl (by (repeat first | exact trivial | refine ent1 ?_)) NoP.nil (fun _ _ => trivial) (fun W' ms' α hL' hI => ⟨[.c (.slc (some ((α 11).add (0 + 0))) 2 2)], ?_, (fn_join (l := [⟨15#64, []⟩, ⟨4#64, []⟩]) (two_items (hI 11 rfl (fun e => absurd (show 4 = 0 from congrArg List.length e) (by decide))) rfl SlAt.nul SlAt.nul) (by decide) (fun x hx => by
          simp only [List.mem_cons, List.not_mem_nil, or_false] at hx
          rcases hx with rfl | rfl <;> decide) hjn5).mono (Res' := fun y hs => ∃ c5, (joinI [⟨15#64, []⟩, ⟨4#64, []⟩]).length ≤ c5 ∧ y = .a (.c (.sl 1 0 0 (joinI [⟨15#64, []⟩, ⟨4#64, []⟩]).length c5)) ∧ hs.drop 1 = [lsC (joinI [⟨15#64, []⟩, ⟨4#64, []⟩]) c5]) (fun x hs hr => ?_)⟩) (fun x hs hr => ?_) ?_
        · (repeat first | exact trivial | refine ent1 ?_)
        · obtain ⟨c5, h5, rfl, rfl⟩ := hr
          exact ⟨c5, h5, rfl, rfl⟩
        · obtain ⟨c5, _, _, h1⟩ := hr
          rw [h1]
          exact NoP.cons (fun W ms h => by cases h) NoP.nil
        rintro y hs ⟨cQ, hcQ, rfl, hdrop⟩
        rw [hdrop]
        clear hdrop
        have hjE5 : joinI [⟨15#64, []⟩, ⟨4#64, []⟩] = [15#8, 0#8, 4#8, 0#8] := by decide +kernel
        rw [hjE5] at hcQ ⊢
        (repeat first | (refine And.intro ?_ ?_; first | exact rfl | ((exact fun h => absurd h (by first | decide)); intro yy; clear yy) | (rotate_left; (exact fun h => absurd h (by first | decide)); intro yy; clear yy) | decide | omega) | (with_reducible refine frc_bytesL (by first | omega | decide) ?_) | (with_reducible refine frc_bytesM (by first | omega | decide) ?_))
        refine call_same (fn_ptake ⟨false, cQ, 0, cQ, [15#8, 0#8, 4#8, 0#8]⟩ (own_ok hcQ (by decide))) [12] rfl (by (repeat first | exact trivial | refine ent1 ?_)) (by refine ⟨rfl, fun j hj => eqC_winBM (Nat.le_refl _), ?_⟩; (repeat first | exact trivial | refine ent1 ?_)) (fun _ _ => trivial) ?_
        rintro y hs' ⟨q5, e5, hq5, hqo5, rfl, rfl⟩
        obtain rfl : e5 = 3 := (small_short hq5).trans (by decide +kernel)
        have k18 : decide ((18 : Int) = 18) = true := by decide
        have k17 : decide ((17 : Int) = 17) = true := by decide
        have k24 : decide ((24 : Int) = 24) = true := by decide
        have k3 : decide ((3 : Int) = 3) = true := by decide
        (repeat first | (refine And.intro ?_ ?_; first | exact rfl | ((exact fun h => absurd h (by first | decide | (rw [k18]; decide) | (rw [k17]; decide) | (rw [k24]; decide) | (rw [k3]; decide))); intro yy; clear yy) | (rotate_left; (exact fun h => absurd h (by first | decide | (rw [k18]; decide) | (rw [k17]; decide) | (rw [k24]; decide) | (rw [k3]; decide))); intro yy; clear yy) | decide | omega) | (with_reducible refine frc_bytesL (by first | omega | decide) ?_) | (with_reducible refine frc_bytesM (by first | omega | decide) ?_))
        refine ⟨.a (.c (.bool true)), [[.past W1 ms1]], ⟨[0], ⟨rfl, rfl, rfl⟩, ?_⟩, rfl⟩
        (repeat first | exact trivial | refine ent1 ?_)
end Sx
end Go.Proofs.Ytkjdkeolkigibaa
end

section
/-
  Numbers of sixteen bits as arguments. Over any program. No condition of its own.
-/
namespace Go.Proofs.Ytkjdkeolkigibaa
set_option linter.unusedVariables false
namespace Sx
open Go.ChangeShapes

theorem wf_w16 {a : Int} (h : (Lit.int .u16 a).wf = true) : a = ((BitVec.ofInt 16 a).toNat : Int) := by
  have := bounds_u16 h
  rw [BitVec.toNat_ofInt]
  omega
theorem wf_w64 {a : Int} (h : (Lit.int .u64 a).wf = true) : a = ((BitVec.ofInt 64 a).toNat : Int) := by
  have := bounds_u64 h
  rw [BitVec.toNat_ofInt]
  omega
end Sx
end Go.Proofs.Ytkjdkeolkigibaa
end

section
/-
  A law whose arguments are raw. No condition.
-/
namespace Go.Proofs.Ytkjdkeolkigibaa
set_option linter.unusedVariables false
namespace Sx
open Go.RowKit Go.ChangeShapes Go.WideShapes Sha Vi

theorem FnR.lawP {P : Program} {T : List (Nat × TD)} {f : FuncId} {args : List SA} {w : World} {vs : List Value} (h : FnR P T f 1 [[.past w []]] args (fun _ => True) (fun x _ => x = .a (.c (.bool true))))
    (ha : IsAs [(0, 0)] args vs) : Calls P f vs.toArray w fun e w' => e = .returned (.bool true) ∧ Below w.heap.size w w' := by
  have hat : AllAt [(0, 0)] w [[.past w []]] [(0, 0)] := ⟨fun j x e => by simp [flat] at e, trivial⟩
  refine (h w [(0, 0)] vs (heapOk_ro hat (fun i W ms e => ?_)) ha trivial).mono ?_
  · cases i with
    | zero => simp at e; exact e.1.symm
    | succ i => simp at e
  · rintro e w' ⟨v, x, hs, r', rfl, hx, hok, rfl⟩
    obtain rfl : v = .bool true := hx
    refine ⟨rfl, ?_⟩
    have e : Ext (([((0 : Nat), (0 : Nat))].drop 1).map (·.1)) w w' := hok.ext
    exact e.below0
theorem cell_block {w : World} {a : Addr} {v : Value} (h : w.cell? a = some v) : a.block < w.heap.size := by
  unfold World.cell? at h
  rcases Nat.lt_or_ge a.block w.heap.size with hb | hb
  · exact hb
  · rw [Array.getElem?_eq_none hb] at h; cases h
theorem row_bs {w : World} {a : Option Addr} {n c : Nat} {zs : List Int} (h : IsRow .u8 w a n c zs) (hs : ∀ x, a = some x → x.spot = none) : ∃ l : Bs, BsAt w [] a n c l := by
  obtain ⟨z, l, B, f, hI⟩ := open_b8 h hs
  rcases h with ⟨rfl, rfl, rfl, rfl⟩ | ⟨x, rfl, hl, hm, hz, hc, hw⟩
  · exact ⟨[], SlAt.nul⟩
  · obtain ⟨B, f, spot⟩ := x
    obtain rfl : spot = none := hs _ rfl
    have hcap := hI.cap
    refine ⟨(zs.take n).map (BitVec.ofInt 8), by simp; omega, hl, by unfold maxLen at hcap; omega, (fun e => by cases e), fun x e h0 => ?_⟩
    injection e with e
    subst e
    refine ⟨rfl, ?_, List.not_mem_nil, fun j y e => ?_⟩
    · have := cell_block (hc 0 (by omega))
      simpa [Addr.add] using this
    · have hj : j < n := by
        have := (List.getElem?_eq_some_iff.1 e).1
        simp at this; omega
      have hjz : j < zs.length := by omega
      have ha : (⟨B, f, none⟩ : Addr).add j = ⟨B, f + j, none⟩ := by unfold Addr.add; simp
      have hc1 := hc j (by omega)
      rw [ha] at hc1
      refine ⟨_, hc1, ?_⟩
      rw [List.getElem?_map, List.getElem?_map, List.getElem?_take, if_pos hj, List.getElem?_eq_getElem hjz] at e
      simp only [Option.map_some, Option.some.injEq] at e
      subst e
      show Value.int .u8 _ = Value.int .u8 _
      congr 1
      have h3 : zs.getD j 0 = zs[j] := by rw [List.getD_eq_getElem?_getD, List.getElem?_eq_getElem hjz]; rfl
      rw [h3]
      exact wf_w8 (hw _ (List.getElem_mem _))
end Sx
end Go.Proofs.Ytkjdkeolkigibaa
end
