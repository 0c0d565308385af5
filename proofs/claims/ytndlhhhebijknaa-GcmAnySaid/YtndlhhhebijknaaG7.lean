/-
  Texts of this claim, part 7: ShaV, Sxw, Sxv, ShaY, KdfA, KdfB, KdfC, KdfD, GcmB, Frc, GcmC, GcmD, GcmE. No condition of its own.
-/
import Derived.OpenShut
import Derived.Test.YtndlhhhebijknaaG6
section
/-
  SHA-256 reckoned by the kernel: the same sums, each word made whole before it is used. Plain. No condition.
-/
namespace Go.Proofs.Ytndlhhhebijknaa
set_option linter.unusedVariables false
namespace Sha
section
variable {α : Sort _}
def frcE (n : Nat) (k : Nat → α) : α := match n with
  | 0 => k 0
  | m + 1 => k (m + 1)
theorem frcE_eq (n : Nat) (k : Nat → α) : frcE n k = k n := by cases n <;> rfl
def frcW (x : BitVec 32) (k : BitVec 32 → α) : α := frcE x.toNat fun n => k (BitVec.ofNat 32 n)
theorem frcW_eq (x : BitVec 32) (k : BitVec 32 → α) : frcW x k = k x := by unfold frcW; rw [frcE_eq, BitVec.ofNat_toNat, BitVec.setWidth_eq]
def frc8 (x : BitVec 8) (k : BitVec 8 → α) : α := frcE x.toNat fun n => k (BitVec.ofNat 8 n)
theorem frc8_eq (x : BitVec 8) (k : BitVec 8 → α) : frc8 x k = k x := by unfold frc8; rw [frcE_eq, BitVec.ofNat_toNat, BitVec.setWidth_eq]
/-- n bytes, each made whole. -/
def tabK (b : Nat → BitVec 8) : Nat → Nat → (Bs → α) → α
  | 0, _, k => k []
  | n + 1, i, k => frc8 (b i) fun x => tabK b n (i + 1) fun l => k (x :: l)
theorem tabK_eq' (b : Nat → BitVec 8) : ∀ (n i : Nat) (k : Bs → α), tabK b n i k = k (tab n fun j => b (i + j))
  | 0, _, _ => rfl
  | n + 1, i, k => by
    simp only [tabK]
    rw [frc8_eq, tabK_eq']
    congr 1
    unfold tab
    rw [List.range_succ_eq_map]
    simp only [List.map_cons, Nat.add_zero, List.map_map, Function.comp_def]
    congr 1
    apply List.map_congr_left
    intro j _
    congr 1; omega
theorem tabK_eq (b : Nat → BitVec 8) (n : Nat) (k : Bs → α) : tabK b n 0 k = k (tab n b) := by rw [tabK_eq']; simp
/-- The first sixteen words, the newest first. -/
def startK (P : Nat → BitVec 8) : Nat → Nat → List (BitVec 32) → (List (BitVec 32) → α) → α
  | 0, _, l, k => k l
  | n + 1, i, l, k => frcW (w0 P i) fun x => startK P n (i + 1) (x :: l) k
def schedK : Nat → List (BitVec 32) → (List (BitVec 32) → α) → α
  | 0, l, k => k l
  | n + 1, l, k => frcW (l.getD 15 0 + sig0 (l.getD 14 0) + l.getD 6 0 + sig1 (l.getD 1 0)) fun x => schedK n (x :: l) k
def roundK : List (BitVec 32) → List (BitVec 32) → BitVec 32 → BitVec 32 → BitVec 32 → BitVec 32 → BitVec 32 → BitVec 32 → BitVec 32 → BitVec 32 → (List (BitVec 32) → α) → α
  | w :: ws, s :: ss, a, b, c, d, e, f, g, h, k =>
    frcW (h + (ror e 6 ^^^ ror e 11 ^^^ ror e 25) + ((e &&& f) ^^^ (~~~e &&& g)) + s + w) fun one =>
    frcW ((ror a 2 ^^^ ror a 13 ^^^ ror a 22) + ((a &&& b) ^^^ (a &&& c) ^^^ (b &&& c))) fun two =>
    frcW (one + two) fun a' => frcW (d + one) fun e' => roundK ws ss a' a b c e' e f g k
  | _, _, a, b, c, d, e, f, g, h, k => k [a, b, c, d, e, f, g, h]
def addK : List (BitVec 32) → List (BitVec 32) → (List (BitVec 32) → α) → α
  | x :: l, y :: m, k => frcW (x + y) fun z => addK l m fun r => k (z :: r)
  | _, _, k => k []
def comprK (V : List (BitVec 32)) (P : Nat → BitVec 8) (k : List (BitVec 32) → α) : α :=
  startK P 16 0 [] fun l => schedK 48 l fun l =>
  roundK l.reverse (stepsL.map (BitVec.ofNat 32)) (V.getD 0 0) (V.getD 1 0) (V.getD 2 0) (V.getD 3 0) (V.getD 4 0) (V.getD 5 0) (V.getD 6 0) (V.getD 7 0) fun v => addK V v k
def blocksK (l : Bs) : Nat → Nat → List (BitVec 32) → (List (BitVec 32) → α) → α
  | 0, _, V, k => k V
  | n + 1, i, V, k => comprK V (fun j => L l (64 * i + j)) fun V => blocksK l n (i + 1) V k
/-- The sum of l. -/
def sumK (l : Bs) (k : Bs → α) : α :=
  tabK (L (full l)) (full l).length 0 fun m => blocksK m (m.length / 64) 0 (firstL.map (BitVec.ofNat 32)) fun V => tabK (outW fun i => V.getD i 0) 32 0 k
end
section
variable {α : Sort _}
def l8 (v : Nat → BitVec 32) : List (BitVec 32) := [v 0, v 1, v 2, v 3, v 4, v 5, v 6, v 7]
theorem l8_get (v : Nat → BitVec 32) {j : Nat} (h : j < 8) : (l8 v).getD j 0 = v j := by
  have : j = 0 ∨ j = 1 ∨ j = 2 ∨ j = 3 ∨ j = 4 ∨ j = 5 ∨ j = 6 ∨ j = 7 := by omega
  rcases this with rfl | rfl | rfl | rfl | rfl | rfl | rfl | rfl <;> rfl
/-- The newest first. -/
def Rep (l : List (BitVec 32)) (m : Nat) (W : Nat → BitVec 32) : Prop := l.length = m ∧ ∀ j, j < m → l.getD (m - 1 - j) 0 = W j
theorem Rep.cons {l : List (BitVec 32)} {m : Nat} {W : Nat → BitVec 32} (h : Rep l m W) : Rep (W m :: l) (m + 1) W :=
  ⟨by simp [h.1], fun j hj => by
    by_cases e : j = m
    · subst e; rw [show j + 1 - 1 - j = 0 by omega]; rfl
    · rw [show m + 1 - 1 - j = (m - 1 - j) + 1 by omega, List.getD_cons_succ]
      exact h.2 j (by omega)⟩
theorem startK_eq (P : Nat → BitVec 8) (W : Nat → BitVec 32) : ∀ (n i : Nat) (l : List (BitVec 32)), (∀ j, j < i + n → w0 P j = W j) → Rep l i W → ∃ l', Rep l' (i + n) W ∧ ∀ k : List (BitVec 32) → α, startK P n i l k = k l'
  | 0, i, l, _, h => ⟨l, h, fun _ => rfl⟩
  | n + 1, i, l, hW, h => by
    obtain ⟨l', h1, h2⟩ := startK_eq P W n (i + 1) (W i :: l) (fun j hj => hW j (by omega)) h.cons
    exact ⟨l', by rwa [show i + (n + 1) = i + 1 + n by omega], fun k => by simp only [startK]; rw [frcW_eq, hW i (by omega), h2]⟩
theorem schedK_eq (W : Nat → BitVec 32) : ∀ (n m : Nat) (l : List (BitVec 32)), (∀ j, j < n → W (m + 16 + j) = W (m + j) + sig0 (W (m + j + 1)) + W (m + j + 9) + sig1 (W (m + j + 14))) → Rep l (m + 16) W → ∃ l', Rep l' (m + 16 + n) W ∧ ∀ k : List (BitVec 32) → α, schedK n l k = k l'
  | 0, m, l, _, h => ⟨l, h, fun _ => rfl⟩
  | n + 1, m, l, hW, h => by
    have e0 := hW 0 (by omega)
    simp only [Nat.add_zero] at e0
    have g : ∀ i, i < 16 → l.getD i 0 = W (m + 15 - i) := fun i hi => by
      have := h.2 (m + 15 - i) (by omega)
      rwa [show m + 16 - 1 - (m + 15 - i) = i by omega] at this
    have e1 : l.getD 15 0 + sig0 (l.getD 14 0) + l.getD 6 0 + sig1 (l.getD 1 0) = W (m + 16) := by
      rw [g 15 (by omega), g 14 (by omega), g 6 (by omega), g 1 (by omega), e0]
      rw [show m + 15 - 15 = m by omega, show m + 15 - 14 = m + 1 by omega, show m + 15 - 6 = m + 9 by omega, show m + 15 - 1 = m + 14 by omega]
    obtain ⟨l', h1, h2⟩ := schedK_eq W n (m + 1) (W (m + 16) :: l) (fun j hj => by
      have := hW (j + 1) (by omega)
      rw [show m + 1 + 16 + j = m + 16 + (j + 1) by omega, show m + 1 + j = m + (j + 1) by omega]
      exact this) (by have := h.cons; rwa [show m + 1 + 16 = m + 16 + 1 by omega])
    exact ⟨l', by rwa [show m + 16 + (n + 1) = m + 1 + 16 + n by omega], fun k => by simp only [schedK]; rw [frcW_eq, e1, h2]⟩
theorem wS_up (P : Nat → BitVec 8) (k i : Nat) (hi : i < 16 + k) : ∀ n, wS P (k + n) i = wS P k i
  | 0 => rfl
  | n + 1 => by
    rw [← Nat.add_assoc]
    simp only [wS]
    rw [if_neg (by omega), wS_up P k i hi n]
theorem wS_at (P : Nat → BitVec 8) (k i : Nat) (hi : i < 16 + k) (hk : k ≤ 48) : wS P 48 i = wS P k i := by
  have := wS_up P k i hi (48 - k)
  rwa [show k + (48 - k) = 48 by omega] at this
theorem wS_new (P : Nat → BitVec 8) (k : Nat) (hk : k < 48) : wS P 48 (16 + k) = wS P 48 k + sig0 (wS P 48 (k + 1)) + wS P 48 (k + 9) + sig1 (wS P 48 (k + 14)) := by
  rw [wS_at P (k + 1) (16 + k) (by omega) (by omega), wS_at P k k (by omega) (by omega), wS_at P k (k + 1) (by omega) (by omega), wS_at P k (k + 9) (by omega) (by omega), wS_at P k (k + 14) (by omega) (by omega)]
  simp only [wS]
  rw [if_pos trivial]
theorem roundK_eq (W V : Nat → BitVec 32) (k : List (BitVec 32) → α) : ∀ (n i : Nat) (v : Nat → BitVec 32), vR W V i = v →
    roundK ((List.range n).map fun j => W (i + j)) ((List.range n).map fun j => steps (i + j)) (v 0) (v 1) (v 2) (v 3) (v 4) (v 5) (v 6) (v 7) k = k (l8 (vR W V (i + n)))
  | 0, i, v, h => by subst h; rfl
  | n + 1, i, v, h => by
    rw [List.range_succ_eq_map, List.map_cons, List.map_cons, roundK, frcW_eq, frcW_eq, frcW_eq, frcW_eq, List.map_map, List.map_map]
    have := roundK_eq W V k n (i + 1) (next v (steps i) (W i)) (by simp only [vR, h])
    rw [show i + (n + 1) = i + 1 + n by omega, ← this]
    have e1 : ((fun j => W (i + j)) ∘ Nat.succ) = fun j => W (i + 1 + j) := funext fun j => congrArg W (show i + (j + 1) = i + 1 + j by omega)
    have e2 : ((fun j => steps (i + j)) ∘ Nat.succ) = fun j => steps (i + 1 + j) := funext fun j => congrArg steps (show i + (j + 1) = i + 1 + j by omega)
    rw [e1, e2]
    rfl
theorem comprK_eq (V : Nat → BitVec 32) (P : Nat → BitVec 8) (k : List (BitVec 32) → α) : comprK (l8 V) P k = k (l8 (compress V P)) := by
  unfold comprK
  obtain ⟨W, hW⟩ : ∃ W, wS P 48 = W := ⟨_, rfl⟩
  obtain ⟨l1, a1, a2⟩ := startK_eq (α := α) P W 16 0 [] (fun j hj => by rw [← hW, wS_at P 0 j (by omega) (by omega)]; simp only [wS]; rw [if_pos (by omega)]) ⟨rfl, fun j hj => absurd hj (by omega)⟩
  rw [a2]
  obtain ⟨l2, b1, b2⟩ := schedK_eq (α := α) W 48 0 l1 (fun j hj => by
    rw [← hW]
    simp only [Nat.zero_add]
    exact wS_new P j hj) a1
  rw [b2]
  have hrev : l2.reverse = (List.range 64).map fun j => W (0 + j) := by
    apply List.ext_getElem
    · simp [b1.1]
    · intro j h1 h2
      have hj : j < 64 := by simpa using h2
      have := b1.2 j hj
      rw [List.getD_eq_getElem?_getD, List.getElem?_eq_getElem (by rw [b1.1]; omega)] at this
      simp only [List.getElem_reverse, List.getElem_map, List.getElem_range, Nat.zero_add, b1.1]
      exact this
  have hst : stepsL.map (BitVec.ofNat 32) = (List.range 64).map fun j => steps (0 + j) := by
    apply List.ext_getElem
    · rfl
    · intro j h1 h2
      have hj : j < stepsL.length := by simpa using h1
      simp only [List.getElem_map, List.getElem_range, Nat.zero_add]
      unfold steps
      rw [List.getD_eq_getElem?_getD, List.getElem?_eq_getElem hj]
      rfl
  rw [hrev, hst]
  have h8 := fun j hj => l8_get V (j := j) hj
  rw [h8 0 (by omega), h8 1 (by omega), h8 2 (by omega), h8 3 (by omega), h8 4 (by omega), h8 5 (by omega), h8 6 (by omega), h8 7 (by omega)]
  rw [roundK_eq W V _ 64 0 V rfl]
  simp only [l8, addK, frcW_eq]
  unfold compress
  rw [hW]
theorem blocksK_eq (m : Bs) (k : List (BitVec 32) → α) : ∀ (n i : Nat), 64 * (i + n) ≤ m.length → blocksK m n i (l8 (wordsAt m i).V) k = k (l8 (wordsAt m (i + n)).V)
  | 0, _, _ => rfl
  | n + 1, i, h => by
    simp only [blocksK]
    rw [comprK_eq, ← wordsAt_succ m i (by omega), blocksK_eq m k n (i + 1) (by omega), show i + (n + 1) = i + 1 + n by omega]
theorem sumK_eq (l : Bs) (k : Bs → α) : sumK l k = k (sumL l) := by
  obtain ⟨Q, hQ, _⟩ := full_64 l
  unfold sumK
  rw [tabK_eq, tab_L, hQ, show 64 * Q / 64 = Q by omega]
  have h0 : firstL.map (BitVec.ofNat 32) = l8 (wordsAt (full l) 0).V := by
    show _ = l8 (pushL d0 ((full l).take (64 * 0))).V
    rw [Nat.mul_zero, List.take_zero]
    rfl
  rw [h0, blocksK_eq (full l) _ Q 0 (by omega), tabK_eq, sumL_full]
  have h1 : (wordsAt (full l) (0 + Q)) = pushL d0 (full l) := by
    unfold wordsAt
    rw [Nat.zero_add, ← hQ, List.take_length]
  rw [h1]
  congr 1
/-- A mark. -/
def padK (x : BitVec 8) (K : Bs) (k : Bs → α) : α := tabK (fun i => L K i ^^^ x) 64 0 k
def keyK (key : Bs) (k : Bs → α) : α := if 64 < key.length then sumK key k else k key
def markK (key m : Bs) (k : Bs → α) : α := keyK key fun K => padK 0x36#8 K fun i => padK 0x5c#8 K fun o => sumK (i ++ m) fun s => sumK (o ++ s) k
theorem markK_eq (key m : Bs) (k : Bs → α) : markK key m k = k (markL key m) := by
  have e : ∀ k' : Bs → α, keyK key k' = k' (keyL key) := fun k' => by
    unfold keyK keyL
    split
    · exact sumK_eq _ _
    · rfl
  unfold markK padK
  rw [e, tabK_eq, tabK_eq, sumK_eq, sumK_eq]
  rfl
end
theorem sum_by {l : Bs} {p : Bs → Bool} (h : sumK l p = true) : p (sumL l) = true := by rwa [sumK_eq] at h
theorem mark_by {key m : Bs} {p : Bs → Bool} (h : markK key m p = true) : p (markL key m) = true := by rwa [markK_eq] at h
end Sha
end Go.Proofs.Ytndlhhhebijknaa
end

section
/-
  From a function over blocks to a law's walk: arguments opened. Over any program. No condition of its own.
-/
namespace Go.Proofs.Ytndlhhhebijknaa
set_option linter.unusedVariables false
namespace Sx
open Go.RowKit Go.ChangeShapes Go.WideShapes

section
variable {H : Type} {enc : TypeId × Value → H} {P : Program} {w : World} {base : Nat} {sp : Nat → Bool} {held : Bool}
theorem wf_w8 {a : Int} (h : (Lit.int .u8 a).wf = true) : a = ((BitVec.ofInt 8 a).toNat : Int) := by
  have := bounds_u8 h
  rw [BitVec.toNat_ofInt]
  omega
/-- An array of bytes as an argument. -/
theorem open_arr8 {n : Nat} {t e : TypeId} (ht : P.underlying t = some (.array n e)) (he : P.underlying e = some (.int .u8)) (hc : P.cellsOf e = 1) (hn : P.cellsOf t = n) {r : Reach} {b0 : Nat} {v : Value} {d : DataW H} {p : List MemPlace}
    (hval : Value.okWide P w r b0 t v) (h : DataW.Trod enc P w base sp held t v d p) : ∃ f : Nat → BitVec 8, v = .agg ((List.range n).map fun i => Value.int .u8 ((f i).toNat : Int)).toArray := by
  obtain ⟨cs, rfl, hsz⟩ : ∃ cs, v = .agg cs ∧ cs.size = P.cellsOf t := by
    simp only [Value.okWide, ht] at hval
    obtain ⟨cs, h1, h2, _⟩ := hval
    exact ⟨cs, h1, h2⟩
  obtain ⟨fuel, hf⟩ := h
  obtain ⟨xs, m, _, _, hl, hx, hel⟩ := DataW.trod_array ht hf
  have cell : ∀ i, i < n → ∃ x : Int, cs[i]? = some (.int .u8 x) ∧ (Lit.int .u8 x).wf = true := by
    intro i hi
    have h1 := hel i hi
    rw [hc, Nat.mul_one, List.getElem?_eq_getElem (by omega)] at h1
    obtain ⟨x, e1, _, wx⟩ := DataW.trod_int he h1
    refine ⟨x, ?_, wx⟩
    have hi2 : i < cs.size := by omega
    have h2 : ((Value.agg cs).cells.toList.drop i).take 1 = [cs[i]] := by
      show (cs.toList.drop i).take 1 = _
      rw [List.drop_eq_getElem_cons (by simpa using hi2)]
      rfl
    rw [h2] at e1
    simp at e1
    rw [Array.getElem?_eq_getElem hi2, e1]
  refine ⟨fun i => match cs[i]? with | some (.int .u8 x) => BitVec.ofInt 8 x | _ => 0#8, ?_⟩
  congr 1
  apply Array.ext
  · simp; omega
  · intro i h1 h2
    obtain ⟨x, e, wx⟩ := cell i (by omega)
    rw [Array.getElem?_eq_getElem h1] at e
    simp only [List.getElem_toArray, List.getElem_map, List.getElem_range, Array.getElem?_eq_getElem h1]
    simp only [Option.some.injEq] at e
    rw [e]
    simp only
    exact congrArg _ (wf_w8 wx)
end
theorem isAs_nil (r : Rho) : IsAs r [] [] := ⟨rfl, fun j x e => by simp at e⟩
theorem isAs_cons {r : Rho} {x : SA} {v : Value} {l : List SA} {vs : List Value} (h : SA.Is r x v) (hs : IsAs r l vs) : IsAs r (x :: l) (v :: vs) :=
  ⟨by simpa using hs.1, fun j y e => by
    cases j with
    | zero => simp at e; subst e; exact ⟨v, rfl, h⟩
    | succ j => exact hs.2 j y e⟩
theorem is_row {r : Rho} {n : Nat} {f : Nat → BitVec 8} : SA.Is r (.agg [.row n fun i => .w8 (f i)]) (.agg ((List.range n).map fun i => Value.int .u8 ((f i).toNat : Int)).toArray) := by
  refine ⟨_, rfl, by simp [flat], fun j x e => ?_⟩
  simp only [flat, List.append_nil, List.getElem?_map, Option.map_eq_some_iff] at e ⊢
  obtain ⟨i, hi, rfl⟩ := e
  exact ⟨_, ⟨i, hi, rfl⟩, rfl⟩
/-- A law's walk. -/
theorem Fn.law {P : Program} {T : List (Nat × TD)} {f : FuncId} {args : List SA} {raw : World → Prop} (h : Fn P T f [] args raw (fun x hs => x = .a (.c (.bool true)) ∧ hs = [])) {w : World} {vs : List Value} (ha : IsAs [] args vs) (hr : raw w) :
    Calls P f vs.toArray w fun e w' => e = .returned (.bool true) ∧ Below w.heap.size w w' := by
  refine (Fn.calls h ha hr).mono ?_
  rintro e w' ⟨v, x, hs, r', rfl, hx, hok, rfl, rfl⟩
  obtain rfl : v = .bool true := hx
  exact ⟨rfl, hok.ext.below0⟩
end Sx
end Go.Proofs.Ytndlhhhebijknaa
end

section
/-
  From a function over blocks that are only read to a law's walk: slices of bytes that came in. Over any program. No condition of its own.
-/
namespace Go.Proofs.Ytndlhhhebijknaa
set_option linter.unusedVariables false
namespace Sx
open Go.RowKit Go.ChangeShapes Go.WideShapes Sha

theorem okWide_spot {P : Program} {w : World} {r : Reach} {b0 : Nat} {t e : TypeId} {a : Option Addr} {n c : Nat} (ht : P.underlying t = some (.slice e)) (h : Value.okWide P w r b0 t (.slice a n c)) : ∀ x, a = some x → x.spot = none := by
  rintro x rfl
  simp only [Value.okWide, ht, Cell.okWide, Cell.ok] at h
  exact h.2.2.2.1
/-- A slice of bytes that came in: nil (z) or not, its bytes, where they lie. -/
structure InB (w : World) (a : Option Addr) (n c : Nat) (z : Bool) (l : Bs) (B f : Nat) : Prop where
  len : l.length = n
  le : n ≤ c
  cap : c ≤ maxLen
  nil : z = true → l = []
  val : ∀ (r : Rho) (i : Nat), r[i]? = some (B, f) → SC.Is r (.sn z i 0 0 n c) (.slice a n c)
  at_ : ∀ r : Rho, At false r w B f (flat (bts z n 0 n (L l)))
theorem open_b8 {w : World} {a : Option Addr} {len cap : Nat} {zs : List Int} (h : IsRow .u8 w a len cap zs) (hs : ∀ x, a = some x → x.spot = none) : ∃ z l B f, InB w a len cap z l B f := by
  rcases h with ⟨rfl, rfl, rfl, rfl⟩ | ⟨x, rfl, hl, hm, hz, hc, hw⟩
  · exact ⟨true, [], 0, 0, rfl, Nat.le_refl _, by unfold maxLen; omega, fun _ => rfl, fun r i _ => .inl ⟨rfl, rfl, rfl, rfl⟩, fun r j y e => by simp [bts, flat] at e⟩
  · obtain ⟨B, f, spot⟩ := x
    obtain rfl : spot = none := hs _ rfl
    refine ⟨false, (zs.take len).map (BitVec.ofInt 8), B, f, by simp; omega, hl, hm, fun h => Bool.noConfusion h, fun r i hr => .inr ⟨rfl, B, f, hr, rfl⟩, fun r j y e => ?_⟩
    have hj : j < len := by
      rcases Nat.lt_or_ge j len with h | h
      · exact h
      · rw [List.getElem?_eq_none (by simpa [bts, flat] using h)] at e; cases e
    have e2 : y = .w8 (L ((zs.take len).map (BitVec.ofInt 8)) j) := by
      simp only [bts, flat, List.append_nil, List.getElem?_map, Option.map_eq_some_iff] at e
      obtain ⟨i, hi, rfl⟩ := e
      rw [List.getElem?_range (by omega)] at hi
      injection hi with hi
      subst hi
      have := winF_at 0 len (L ((zs.take len).map (BitVec.ofInt 8))) hj
      rwa [Nat.zero_add] at this
    subst e2
    have hc1 := hc j (by omega)
    have ha : (⟨B, f, none⟩ : Addr).add j = ⟨B, f + j, none⟩ := by unfold Addr.add; simp
    rw [ha] at hc1
    refine ⟨_, hc1, ?_, fun h => Bool.noConfusion h⟩
    show Value.int .u8 _ = Value.int .u8 _
    congr 1
    have hjz : j < zs.length := by omega
    have h3 : zs.getD j 0 = zs[j] := by rw [List.getD_eq_getElem?_getD, List.getElem?_eq_getElem hjz]; rfl
    have h4 : L ((zs.take len).map (BitVec.ofInt 8)) j = BitVec.ofInt 8 zs[j] := by
      rw [L_lt (by simp; omega)]
      simp
    rw [h3, h4]
    exact wf_w8 (hw _ (List.getElem_mem _))
/-- The blocks lie where r says. -/
def AllAt (R : Rho) (w : World) : List (List Seg) → Rho → Prop
  | [], [] => True
  | ch :: h, (B, f) :: r => At false R w B f (flat ch) ∧ AllAt R w h r
  | _, _ => False
theorem AllAt.len {R : Rho} {w : World} : ∀ {h : List (List Seg)} {r : Rho}, AllAt R w h r → r.length = h.length
  | [], [], _ => rfl
  | _ :: h, _ :: r, k => by rw [List.length_cons, List.length_cons, AllAt.len k.2]
  | [], _ :: _, k => k.elim
  | _ :: _, [], k => k.elim
theorem AllAt.get {R : Rho} {w : World} : ∀ {h : List (List Seg)} {r : Rho}, AllAt R w h r → ∀ (i : Nat) (ch : List Seg) (B f : Nat), h[i]? = some ch → r[i]? = some (B, f) → At false R w B f (flat ch)
  | [], [], _, i, _, _, _, e, _ => by simp at e
  | c :: h, (B', f') :: r, k, 0, _, _, _, e1, e2 => by
    simp at e1 e2
    obtain ⟨rfl, rfl⟩ := e2
    subst e1
    exact k.1
  | c :: h, (B', f') :: r, k, i + 1, _, _, _, e1, e2 => k.2.get i _ _ _ (by simpa using e1) (by simpa using e2)
theorem heapOk_ro {P : Program} {T : List (Nat × TD)} {w : World} {r0 : Rho} {h0 : List (List Seg)} (hat : AllAt r0 w h0 r0) : HeapOk (cx0 P T w r0 h0.length h0) h0 r0 w := by
  have hlen := hat.len
  have hget : ∀ i, h0[i]? = some (getH h0 i) ∨ h0[i]? = none := fun i => by
    rcases Nat.lt_or_ge i h0.length with h | h
    · exact .inl (by rw [List.getElem?_eq_getElem h]; have := getH_eq h0 i; rw [List.getElem?_eq_getElem h] at this; simpa using this.symm)
    · exact .inr (List.getElem?_eq_none h)
  have out : ∀ (i : Nat) (x : Nat × Nat), h0.length ≤ i → r0[i]? = some x → False := fun i x hi e => by
    rw [List.getElem?_eq_none (by omega)] at e; cases e
  refine ⟨Ext.refl _ _, RLe.refl _, Nat.le_of_eq hlen.symm, hlen, fun i ch B f hi hr => ?_, fun i B f ho hr => (out i _ ho hr).elim, fun i B f ho hr => (out i _ ho hr).elim, fun i B f ho hl hr => ?_, fun i ch ho hl hi => ?_, fun i j B f f' ch ch' hij o1 o2 h1 h2 r1 r2 => (out i _ o1 r1).elim⟩
  · have hil : i < h0.length := (List.getElem?_eq_some_iff.1 hi).1
    have : Nat.ble h0.length i = false := by
      cases e : Nat.ble h0.length i
      · rfl
      · have := ble_le e; omega
    show At (Nat.ble h0.length i) _ _ _ _ _
    rw [this]
    exact hat.get i ch B f hi hr
  · refine ⟨?_, ?_⟩
    · show B ∉ (r0.drop h0.length).map (·.1)
      rw [List.drop_eq_nil_of_le (by omega)]
      simp
    · rcases hget i with e | e
      · exact (hat.get i _ B f e hr).lt hl
      · rw [List.getElem?_eq_none_iff] at e
        exact (out i _ e hr).elim
  · have hl : ¬ flat (getH h0 i) ≠ [] := hl
    rcases hget i with e | e
    · rw [hi] at e
      injection e with e
      rw [e]
      exact Classical.not_not.1 hl
    · rw [hi] at e; cases e
/-- A law's walk: what came in is only read. -/
theorem FnR.law {P : Program} {T : List (Nat × TD)} {f : FuncId} {n : Nat} {h0 : List (List Seg)} {args : List SA} {raw : World → Prop} {w : World} {vs : List Value} {r0 : Rho} (h : FnR P T f n h0 args raw (fun x _ => x = .a (.c (.bool true)))) (hn : n = h0.length)
    (hat : AllAt r0 w h0 r0) (ha : IsAs r0 args vs) (hr : raw w) :
    Calls P f vs.toArray w fun e w' => e = .returned (.bool true) ∧ Below w.heap.size w w' := by
  subst hn
  refine (h w r0 vs (heapOk_ro hat) ha hr).mono ?_
  rintro e w' ⟨v, x, hs, r', rfl, hx, hok, rfl⟩
  obtain rfl : v = .bool true := hx
  refine ⟨rfl, ?_⟩
  have e : Ext ((r0.drop h0.length).map (·.1)) w w' := hok.ext
  rw [List.drop_eq_nil_of_le (by rw [hat.len]; exact Nat.le_refl _)] at e
  exact e.below0
end Sx
end Go.Proofs.Ytndlhhhebijknaa
end

section
/-
  SHA-256: the law's fixed fact; marks. No condition.
-/
namespace Go.Proofs.Ytndlhhhebijknaa
set_option linter.unusedVariables false
namespace Sha
/-- Bytes as the model's strings have them. -/
def U8 (l : Bs) : List UInt8 := l.map UInt8.ofBitVec
@[simp] theorem U8_len (l : Bs) : (U8 l).length = l.length := by simp [U8]
theorem U8_get (l : Bs) (q : Nat) (h : q < l.length) : ((U8 l).getD q 0).toBitVec = L l q := by
  rw [L_lt h, List.getD_eq_getElem?_getD, U8, List.getElem?_map, List.getElem?_eq_getElem h]
  rfl
theorem U8_inj {l m : Bs} (h : U8 l = U8 m) : l = m := by
  have : (U8 l).map UInt8.toBitVec = (U8 m).map UInt8.toBitVec := congrArg _ h
  simpa [U8, Function.comp_def] using this
theorem cat2 (a b c : Bs) : cat (ps3 a b c) 2 = a ++ b := by simp [cat, ps3]
theorem cat1 (a b c : Bs) : cat (ps3 a b c) 1 = a := by simp [cat, ps3]
theorem cat3 (a b c : Bs) : cat (ps3 a b c) 3 = a ++ b ++ c := by simp [cat, ps3]
end Sha
namespace Sx
open Sha

theorem eqSegs_nil {q : List Nat} {x : List Seg} {k : Prop} (h : k) : eqSegs q x [] k := by
  cases x with
  | nil => exact h
  | cons a r => cases a <;> exact h
/-- Bytes of a string. -/
theorem str_of {g : Nat → SC} {n : Nat} {M : Bs} (hn : M.length = n) (h : ∀ q, q < n → g q = .w8 (L M q)) : (U8 M).length = n ∧ ∀ q, q < n → g q = .w8 ((U8 M).getD q 0).toBitVec :=
  ⟨by rw [U8_len, hn], fun q hq => by rw [h q hq, U8_get M q (by omega)]⟩
theorem nthC_w8 : ∀ (l : Bs) (j : Nat), j < l.length → nthC (l.map SC.w8) j = .w8 (L l j)
  | [], _, h => absurd h (by simp)
  | x :: l, 0, _ => rfl
  | x :: l, j + 1, h => nthC_w8 l j (by simpa using h)
theorem eqC_lit {q : List Nat} (l : Bs) {j : Nat} (h : j < l.length) : eqC q (nthC (l.map SC.w8) j) (winF 0 l.length (L l) j) True :=
  eqC_win0 (f := nthC (l.map SC.w8)) (fun i hi => nthC_w8 l i hi) j
def abc : Bs := [97#8, 98#8, 99#8]
theorem abc_sum : L (sumL abc) 0 = 186#8 ∧ L (sumL abc) 1 = 120#8 ∧ L (sumL abc) 2 = 22#8 ∧ L (sumL abc) 3 = 191#8 :=
  of_decide_eq_true (sum_by (p := fun l => decide (L l 0 = 186#8 ∧ L l 1 = 120#8 ∧ L l 2 = 22#8 ∧ L l 3 = 191#8)) (by decide +kernel))
set_option maxRecDepth 20000 in
theorem fn_awake3 : Fn Try.prog tds 15 [] [] (fun _ => True) (fun x hs => x = .a (.c (.bool true)) ∧ hs = []) := by
  refine fn_of_body tds_ok follows_ Try.func15 rfl (t := anys 27) rfl (fun w r0 hr _ => ?_)
  obtain rfl : r0 = [] := List.eq_nil_of_length_eq_zero hr
  refine ⟨by kernel_rfl, call_same fn_snew [] rfl trivial trivial (fun _ _ => trivial) ?_⟩
  rintro x hs ⟨rfl, rfl⟩
  (repeat first | refine ⟨by omega, ?_⟩ | refine ⟨by decide, ?_⟩ | refine ⟨idx8 _, ?_⟩ | refine ⟨lt8 (Nat.le_refl _) _, ?_⟩ | refine ⟨rfl, ?_⟩)
  refine call_same (fn_ssum3 false true true 3 0 0 0 0 0 3 0 0 abc [] [] 1 1 1 0 (fun _ => 0) (fun _ => 0) (.inl rfl) (by decide) (by decide) (by decide) (by decide) (by decide) (by decide) (by decide) (fun _ => rfl) (fun _ => rfl) (by decide) (by decide)) [1, 2, 2, 2, 0] rfl (by (repeat first | exact trivial | refine ⟨rfl, ?_⟩ | refine ⟨fun _ _ => ⟨rfl, trivial⟩, ?_⟩ | refine ⟨fun _ _ => trivial, ?_⟩ | refine ⟨by omega, ?_⟩ | refine ⟨fun _ _ => eqC_winS, ?_⟩ | refine ⟨fun _ _ => eqC_winM, ?_⟩ | refine ⟨fun _ _ => eqC_winB, ?_⟩ | refine ⟨fun _ _ => eqC_selfB, ?_⟩ | refine ⟨fun _ _ => eqC_mpB, ?_⟩)) ?_ (fun _ _ => trivial) ?_
  · (repeat first | exact trivial | refine ⟨rfl, ?_⟩ | refine ⟨fun _ _ => ⟨rfl, trivial⟩, ?_⟩ | refine ⟨fun _ _ => trivial, ?_⟩ | refine ⟨by omega, ?_⟩ | refine ⟨fun _ _ => eqC_winS, ?_⟩ | refine ⟨fun _ _ => eqC_winM, ?_⟩ | refine ⟨fun _ _ => eqC_winB, ?_⟩ | refine ⟨fun _ _ => eqC_selfB, ?_⟩ | refine ⟨fun _ _ => eqC_mpB, ?_⟩)
    refine ⟨fun j hj => eqC_lit abc hj, ?_⟩
    (repeat first | exact trivial | refine ⟨rfl, ?_⟩ | refine ⟨fun _ _ => ⟨rfl, trivial⟩, ?_⟩ | refine ⟨fun _ _ => trivial, ?_⟩ | refine ⟨by omega, ?_⟩ | refine ⟨fun _ _ => eqC_winS, ?_⟩ | refine ⟨fun _ _ => eqC_winM, ?_⟩ | refine ⟨fun _ _ => eqC_winB, ?_⟩ | refine ⟨fun _ _ => eqC_selfB, ?_⟩ | refine ⟨fun _ _ => eqC_mpB, ?_⟩)
    refine ⟨fun j hj => eqC_parts (fun i hi => ?_) j, ?_⟩
    · obtain rfl : i = 0 := by omega
      exact ⟨rfl, rfl, rfl, rfl, trivial⟩
    · (repeat first | exact trivial | refine ⟨rfl, ?_⟩ | refine ⟨fun _ _ => ⟨rfl, trivial⟩, ?_⟩ | refine ⟨fun _ _ => trivial, ?_⟩ | refine ⟨by omega, ?_⟩ | refine ⟨fun _ _ => eqC_winS, ?_⟩ | refine ⟨fun _ _ => eqC_winM, ?_⟩ | refine ⟨fun _ _ => eqC_winB, ?_⟩ | refine ⟨fun _ _ => eqC_selfB, ?_⟩ | refine ⟨fun _ _ => eqC_mpB, ?_⟩)
  rintro x hs ⟨rfl, rfl⟩
  rw [cat1]
  obtain ⟨h0, h1, h2, h3⟩ := abc_sum
  obtain ⟨S, hS⟩ : ∃ S, sumL abc = S := ⟨_, rfl⟩
  rw [hS] at h0 h1 h2 h3
  rw [hS]
  (repeat first | refine And.intro (by omega) ?_ | refine And.intro (by decide) ?_ | refine And.intro rfl ?_ | refine And.intro (fun _ => ?_) (fun h => Bool.noConfusion h) | refine And.intro (fun _ => ?_) (fun h => absurd h0 (of_decide_eq_false h)) | refine And.intro (fun _ => ?_) (fun h => absurd h1 (of_decide_eq_false h)) | refine And.intro (fun _ => ?_) (fun h => absurd h2 (of_decide_eq_false h)) | refine And.intro (fun _ => ?_) (fun h => absurd h3 (of_decide_eq_false h)))
  exact ⟨.a (.c (.bool true)), [], ⟨[], ⟨rfl, rfl, rfl⟩, rfl, trivial⟩, rfl, rfl⟩
theorem notTrue : (!true) = false := rfl
set_option maxRecDepth 20000 in
set_option maxHeartbeats 1000000 in
theorem fn_shaMarks (z0 z1 z2 : Bool) (c0 c1 c2 : Nat) (l0 l1 l2 : Bs) (hc0 : l0.length ≤ c0) (hc1 : l1.length ≤ c1) (hc2 : l2.length ≤ c2) (hz0 : z0 = true → l0 = []) (hz1 : z1 = true → l1 = []) (hz2 : z2 = true → l2 = []) :
    FnR Try.prog tds 4 3 [bts z0 l0.length 0 l0.length (L l0), bts z1 l1.length 0 l1.length (L l1), bts z2 l2.length 0 l2.length (L l2)] [.c (.sn z0 0 0 0 l0.length c0), .c (.sn z1 1 0 0 l1.length c1), .c (.sn z2 2 0 0 l2.length c2)] (fun _ => True) (fun x _ => x = .a (.c (.bool true))) := by
  refine fn_of_body tds_ok follows_ Try.func4 rfl (t := [.a (.c (.sn z0 0 0 0 l0.length c0)), .a (.c (.sn z1 1 0 0 l1.length c1)), .a (.c (.sn z2 2 0 0 l2.length c2)), .any, .any, .any, .any, .any, .any, .any, .any, .any, .any, .any, .any, .any, .any, .any, .any, .any, .any, .any, .any, .any, .any, .any, .any, .any, .any, .any, .any, .any, .any, .any, .any, .any, .any, .any, .any, .any]) rfl (fun w r0 hr _ => ?_)
  obtain ⟨x0, x1, x2, rfl⟩ := len3' hr
  refine ⟨by kernel_rfl, call_same fn_awake3 [] rfl trivial trivial (fun _ _ => trivial) ?_⟩
  rintro x hs ⟨rfl, rfl⟩
  refine ⟨fun h => Bool.noConfusion h, fun _ => ?_⟩
  by_cases h0 : 200 < l0.length
  · have e0 : decide ((200 : Int) < (l0.length : Int)) = true := decide_eq_true (by omega)
    (repeat first | refine ⟨fun _ => ?_, fun h => absurd h (by rw [e0]; decide)⟩ | refine ⟨fun h => absurd h (by rw [e0]; decide), fun _ => ?_⟩ | refine ⟨fun _ => ?_, fun h => Bool.noConfusion h⟩ | refine ⟨fun h => Bool.noConfusion h, fun _ => ?_⟩)
    exact ⟨.a (.c (.bool true)), [[], [], []], ⟨[0, 1, 2], ⟨rfl, rfl, rfl⟩, rfl, eqSegs_nil (eqSegs_nil (eqSegs_nil trivial))⟩, rfl⟩
  have e0 : decide ((200 : Int) < (l0.length : Int)) = false := decide_eq_false (by omega)
  by_cases h1 : 200 < l1.length
  · have e1 : decide ((200 : Int) < (l1.length : Int)) = true := decide_eq_true (by omega)
    (repeat first | refine ⟨fun _ => ?_, fun h => absurd h (by rw [e0]; decide)⟩ | refine ⟨fun h => absurd h (by rw [e0]; decide), fun _ => ?_⟩ | refine ⟨fun _ => ?_, fun h => absurd h (by rw [e1]; decide)⟩ | refine ⟨fun h => absurd h (by rw [e1]; decide), fun _ => ?_⟩ | refine ⟨fun _ => ?_, fun h => Bool.noConfusion h⟩ | refine ⟨fun h => Bool.noConfusion h, fun _ => ?_⟩)
    exact ⟨.a (.c (.bool true)), [[], [], []], ⟨[0, 1, 2], ⟨rfl, rfl, rfl⟩, rfl, eqSegs_nil (eqSegs_nil (eqSegs_nil trivial))⟩, rfl⟩
  have e1 : decide ((200 : Int) < (l1.length : Int)) = false := decide_eq_false (by omega)
  by_cases h2 : 200 < l2.length
  · have e2 : decide ((200 : Int) < (l2.length : Int)) = true := decide_eq_true (by omega)
    (repeat first | refine ⟨fun _ => ?_, fun h => absurd h (by rw [e0]; decide)⟩ | refine ⟨fun h => absurd h (by rw [e0]; decide), fun _ => ?_⟩ | refine ⟨fun _ => ?_, fun h => absurd h (by rw [e1]; decide)⟩ | refine ⟨fun h => absurd h (by rw [e1]; decide), fun _ => ?_⟩ | refine ⟨fun _ => ?_, fun h => absurd h (by rw [e2]; decide)⟩ | refine ⟨fun h => absurd h (by rw [e2]; decide), fun _ => ?_⟩ | refine ⟨fun _ => ?_, fun h => Bool.noConfusion h⟩ | refine ⟨fun h => Bool.noConfusion h, fun _ => ?_⟩)
    exact ⟨.a (.c (.bool true)), [[], [], []], ⟨[0, 1, 2], ⟨rfl, rfl, rfl⟩, rfl, eqSegs_nil (eqSegs_nil (eqSegs_nil trivial))⟩, rfl⟩
  have e2 : decide ((200 : Int) < (l2.length : Int)) = false := decide_eq_false (by omega)
  (repeat first | refine ⟨fun _ => ?_, fun h => absurd h (by rw [e0]; decide)⟩ | refine ⟨fun h => absurd h (by rw [e0]; decide), fun _ => ?_⟩ | refine ⟨fun _ => ?_, fun h => absurd h (by rw [e1]; decide)⟩ | refine ⟨fun h => absurd h (by rw [e1]; decide), fun _ => ?_⟩ | refine ⟨fun _ => ?_, fun h => absurd h (by rw [e2]; decide)⟩ | refine ⟨fun h => absurd h (by rw [e2]; decide), fun _ => ?_⟩ | refine ⟨fun _ => ?_, fun h => Bool.noConfusion h⟩ | refine ⟨fun h => Bool.noConfusion h, fun _ => ?_⟩)
  refine ⟨by kernel_rfl, call_same fn_snew [] rfl trivial trivial (fun _ _ => trivial) ?_⟩
  rintro x hs ⟨rfl, rfl⟩
  (repeat first | refine And.intro (by omega) ?_ | refine And.intro (by decide) ?_ | (with_reducible refine frc_parts (by first | omega | decide) ?_) | (with_reducible refine frc_bytesL (by first | omega | decide) ?_) | refine And.intro rfl ?_)
  refine call_same (fn_smark z0 z1 z2 true l0.length l1.length l2.length 0 0 0 0 0 c0 c1 c2 0 l0 l1 l2 [] 2 2 2 0 (fun _ => 0) (fun _ => 0) (.inl rfl) (by omega) hc0 hz0 (by omega) hc1 hz1 (by omega) hc2 hz2 (by decide) (by decide) (fun _ => rfl) (by decide) (by decide)) [0, 1, 2, 4, 4, 3] rfl (by (repeat first | exact trivial | refine ⟨rfl, ?_⟩ | refine ⟨fun _ _ => ⟨rfl, trivial⟩, ?_⟩ | refine ⟨fun _ _ => trivial, ?_⟩ | refine ⟨by omega, ?_⟩ | refine ⟨fun _ _ => eqC_winS, ?_⟩ | refine ⟨fun _ _ => eqC_winM, ?_⟩ | refine ⟨fun _ _ => eqC_winB, ?_⟩ | refine ⟨fun _ _ => eqC_selfB, ?_⟩ | refine ⟨fun _ _ => eqC_mpB, ?_⟩)) ?_ (fun _ _ => trivial) ?_
  · refine eqC_bts (eqC_bts (eqC_bts ?_))
    (repeat first | exact trivial | refine ⟨rfl, ?_⟩ | refine ⟨fun _ _ => ⟨rfl, trivial⟩, ?_⟩ | refine ⟨fun _ _ => trivial, ?_⟩ | refine ⟨by omega, ?_⟩ | refine ⟨fun _ _ => eqC_winS, ?_⟩ | refine ⟨fun _ _ => eqC_winM, ?_⟩ | refine ⟨fun _ _ => eqC_winB, ?_⟩ | refine ⟨fun _ _ => eqC_selfB, ?_⟩ | refine ⟨fun _ _ => eqC_mpB, ?_⟩)
    refine ⟨fun j hj => eqC_parts (fun i hi => ?_) j, ?_⟩
    · have : i = 0 ∨ i = 1 := by omega
      rcases this with rfl | rfl
      · exact ⟨rfl, rfl, rfl, rfl, trivial⟩
      · exact ⟨rfl, rfl, rfl, rfl, trivial⟩
    · (repeat first | exact trivial | refine ⟨rfl, ?_⟩ | refine ⟨fun _ _ => ⟨rfl, trivial⟩, ?_⟩ | refine ⟨fun _ _ => trivial, ?_⟩ | refine ⟨by omega, ?_⟩ | refine ⟨fun _ _ => eqC_winS, ?_⟩ | refine ⟨fun _ _ => eqC_winM, ?_⟩ | refine ⟨fun _ _ => eqC_winB, ?_⟩ | refine ⟨fun _ _ => eqC_selfB, ?_⟩ | refine ⟨fun _ _ => eqC_mpB, ?_⟩)
  rintro x hs ⟨rfl, rfl⟩
  rw [cat2]
  obtain ⟨M, hM⟩ : ∃ M, markL l0 (l1 ++ l2) = M := ⟨_, rfl⟩
  have hMl : M.length = 32 := by rw [← hM, markL_len]
  rw [hM]
  (repeat first | refine And.intro (by omega) ?_ | refine And.intro (by decide) ?_ | (with_reducible refine frc_parts (by first | omega | decide) ?_) | (with_reducible refine frc_bytesL (by first | omega | decide) ?_) | refine And.intro rfl ?_)
  refine ⟨some [5, 9], [], [(0, true), (1, true), (2, true), (4, true), (6, true), (3, false), (5, false), (7, false), (8, false), (9, true), (10, true), (11, true)], [], by kernel_rfl, ?_⟩
  (repeat first | refine And.intro (by omega) ?_ | refine And.intro (by decide) ?_ | (with_reducible refine frc_parts (by first | omega | decide) ?_) | (with_reducible refine frc_bytesL (by first | omega | decide) ?_) | refine And.intro rfl ?_)
  refine ⟨U8 M, str_of hMl (fun q hq => rfl), ?_⟩
  (repeat first | refine And.intro (by omega) ?_ | refine And.intro (by decide) ?_ | (with_reducible refine frc_parts (by first | omega | decide) ?_) | (with_reducible refine frc_bytesL (by first | omega | decide) ?_) | refine And.intro rfl ?_)
  refine sn_bts (N := l1.length) (b := L l1) ?_ (by omega) (fun h => by rw [hz1 h]; rfl) (fun g hg => ?_)
  · rfl
  refine ⟨⟨by omega, by simp [scale], by show _ * 1 ≤ _; omega⟩, fun k1 hk1 => ?_⟩
  refine sn_bts (N := l2.length) (b := L l2) ?_ (by omega) (fun h => by rw [hz2 h]; rfl) (fun g2 hg2 => ?_)
  · rfl
  refine ⟨⟨by omega, by simp only [scale]; omega, by show _ * 1 ≤ _; omega⟩, fun k2 hk2 => ?_⟩
  have hr : ∀ i, i < (l1 ++ l2).length → appF (appF (nthC []) 0 (scale 0 (0 + 1)) (scale l1.length (0 + 1)) g) 0 (scale (0 + l1.length) (0 + 1)) (scale l2.length (0 + 1)) g2 i = .w8 (L (l1 ++ l2) i) := fun i hi => by
    rw [List.length_append] at hi
    rw [L_app]
    unfold appF
    by_cases h : i < l1.length
    · rw [if_pos (by simp only [scale]; omega), if_neg (by simp [scale]), if_pos (by simp only [scale]; omega), if_pos h]
      exact hg i h
    · rw [if_neg (by simp only [scale]; omega), if_pos (by simp only [scale]; omega), if_neg h, show scale (0 + l1.length) (0 + 1) = l1.length from Nat.zero_add _]
      exact hg2 _ (by omega)
  refine ⟨by kernel_rfl, call_same (fn_rmark z0 false l0.length k2 0 0 c0 k2 l0 (l1 ++ l2) (by omega) hc0 hz0 (by rw [List.length_append]; omega) (by rw [List.length_append]; omega) (fun h => Bool.noConfusion h) (by omega) (by rw [List.length_append]; omega)) [0, 8] rfl ⟨rfl, rfl, rfl, rfl, ?_⟩ ?_ (fun _ _ => trivial) ?_⟩
  · exact ⟨rfl, rfl, by rw [List.length_append, Nat.zero_add], rfl, trivial⟩
  · refine eqC_bts ?_
    exact ⟨rfl, fun j hj => eqC_win0 hr j, trivial⟩
  rintro x hs ⟨c, rfl, rfl, hc⟩
  rw [hM]
  (repeat first | refine And.intro (by omega) ?_ | refine And.intro (by decide) ?_ | (with_reducible refine frc_parts (by first | omega | decide) ?_) | (with_reducible refine frc_bytesL (by first | omega | decide) ?_) | refine And.intro rfl ?_)
  refine ⟨by simp only [scale]; omega, U8 M, str_of hMl (fun q hq => ?_), ?_⟩
  · show SC.mp _ (bytesF 32 (L M) (q + 0)) = _
    rw [bytesF_lt (by omega)]
    rfl
  exact ⟨.a (.c (.bool true)), [[], [], []], ⟨[0, 1, 2], ⟨rfl, rfl, rfl⟩, decide_eq_true rfl, eqSegs_nil (eqSegs_nil (eqSegs_nil trivial))⟩, rfl⟩
end Sx
end Go.Proofs.Ytndlhhhebijknaa
end

section
/-
  Secrets out of secrets: the program's Expand. No condition.
-/
namespace Go.Proofs.Ytndlhhhebijknaa
set_option linter.unusedVariables false
namespace Sha
/-- The k-th mark. -/
def exT (s about : Bs) : Nat → Bs
  | 0 => []
  | k + 1 => markL s (exT s about k ++ about ++ [BitVec.ofNat 8 (k + 1)])
/-- The first k marks. -/
def exL (s about : Bs) : Nat → Bs
  | 0 => []
  | k + 1 => exL s about k ++ exT s about (k + 1)
theorem exT_len (s about : Bs) (k : Nat) : (exT s about (k + 1)).length = 32 := markL_len _ _
theorem exL_len (s about : Bs) : ∀ k, (exL s about k).length = 32 * k
  | 0 => rfl
  | k + 1 => by simp only [exL, List.length_append, exL_len s about k, exT_len]; omega
def exF (s about : Bs) (i : Nat) : BitVec 8 := L (exL s about (i / 32 + 1)) i
theorem exL_up (s about : Bs) (k i : Nat) (hi : i < 32 * k) : ∀ n, L (exL s about (k + n)) i = L (exL s about k) i
  | 0 => rfl
  | n + 1 => by
    rw [← Nat.add_assoc]
    simp only [exL]
    rw [L_app1 (by rw [exL_len]; omega), exL_up s about k i hi n]
theorem exL_at (s about : Bs) (k i : Nat) (hi : i < 32 * k) : L (exL s about k) i = exF s about i := by
  unfold exF
  have := exL_up s about (i / 32 + 1) i (by omega) (k - (i / 32 + 1))
  rwa [show i / 32 + 1 + (k - (i / 32 + 1)) = k by omega] at this
end Sha
namespace Sx
open Sha

theorem eqC_n3 {q : List Nat} {a b c a' b' c' : SC} {m : Nat} (hm : m ≤ 3) (h0 : eqC q a a' True) (h1 : 1 < m → eqC q b b' True) (h2 : 2 < m → eqC q c c' True) (j : Nat) : eqC q (nthC [a, b, c] j) (partsF m (nthC [a', b', c']) j) True :=
  eqC_parts (f := nthC [a, b, c]) (fun i hi => by
    have : i = 0 ∨ i = 1 ∨ i = 2 := by omega
    rcases this with rfl | rfl | rfl
    · exact h0
    · exact h1 hi
    · exact h2 hi) j
set_option maxRecDepth 20000 in
set_option maxHeartbeats 2000000 in
theorem fn_kexpand (za : Bool) (Na oa ca : Nat) (s about : Bs) (many : Int) (dn : BitVec 32) (f g : Nat → BitVec 32) (hd : dn = 0#32 ∨ dn = 1#32 ∧ f = first ∧ g = steps)
    (hs : s.length = 32) (hNa : oa + about.length ≤ Na) (hca : about.length ≤ ca) (hza : za = true → about = []) :
    FnR Try.prog tds 23 1 [bts za Na oa about.length (L about), shaT dn 0 f g] [.c (.p 1 0 0), .agg [.row 32 fun i => .w8 (L s i)], .c (.sn za 0 0 oa about.length ca), .c (.int .i64 many)] (fun _ => True)
      (fun x hs => ((many < 0 ∨ 8160 < many) → x = .tup [.c (.slc none 0 0), .c (.int .i64 2)] ∧ hs = [bts za Na oa about.length (L about), shaT dn 0 f g]) ∧
        (0 ≤ many → many ≤ 8160 → ∃ (z : Bool) (N : Nat) (dn' : BitVec 32) (f' g' : Nat → BitVec 32), (dn' = 0#32 ∨ dn' = 1#32 ∧ f' = first ∧ g' = steps) ∧ (z = true → many.toNat = 0) ∧ (0 < many → z = false) ∧ many.toNat ≤ N ∧
          x = .tup [.c (.sn z 2 0 0 many.toNat many.toNat), .c (.int .i64 0)] ∧ hs = [bts za Na oa about.length (L about), shaT dn' 0 f' g', bts z N 0 many.toNat (exF s about)])) := by
  refine fn_of_body tds_ok follows_ Try.func23 rfl (t := [.a (.c (.p 1 0 0)), .a (.agg [.row 32 fun i => .w8 (L s i)]), .a (.c (.sn za 0 0 oa about.length ca)), .a (.c (.int .i64 (many))), .any, .any, .any, .any, .any, .any, .any, .any, .any, .any, .any, .any, .any, .any, .any, .any, .any, .any, .any, .any, .any, .any, .any, .any, .any, .any, .any, .any, .any, .any, .any, .any, .any, .any, .any, .any, .any, .any, .any, .any, .any, .any, .any]) rfl (fun w r0 hr _ => ?_)
  obtain ⟨x0, x1, rfl⟩ := len2' hr
  (repeat first | refine And.intro (by omega) ?_ | refine And.intro (by decide) ?_ | (with_reducible refine frc_parts (by first | omega | decide) ?_) | (with_reducible refine frc_bytesL (by first | omega | decide) ?_) | refine And.intro rfl ?_)
  refine ⟨fun h => Bool.noConfusion h, fun _ => ?_⟩
  by_cases h0 : many < 0
  · have e0 : decide (many < 0) = true := decide_eq_true h0
    (repeat first | refine ⟨fun _ => ?_, fun h => absurd h (by rw [e0]; decide)⟩ | refine ⟨fun h => absurd h (by rw [e0]; decide), fun _ => ?_⟩ | refine ⟨fun _ => ?_, fun h => Bool.noConfusion h⟩ | refine ⟨fun h => Bool.noConfusion h, fun _ => ?_⟩)
    refine ⟨.tup [.c (.slc none 0 0), .c (.int .i64 2)], [bts za Na oa about.length (L about), shaT dn 0 f g], ⟨[0, 1], ⟨rfl, rfl, rfl⟩, ?_⟩, fun _ => ⟨rfl, rfl⟩, fun h => absurd h0 (by omega)⟩
    (repeat first | exact trivial | refine ⟨rfl, ?_⟩ | refine ⟨fun _ _ => ⟨rfl, trivial⟩, ?_⟩ | refine ⟨fun _ _ => trivial, ?_⟩ | refine ⟨by omega, ?_⟩ | refine ⟨fun _ _ => eqC_winS, ?_⟩ | refine ⟨fun _ _ => eqC_winM, ?_⟩ | refine ⟨fun _ _ => eqC_winB, ?_⟩ | refine ⟨fun _ _ => eqC_selfB, ?_⟩ | refine ⟨fun _ _ => eqC_mpB, ?_⟩)
    refine eqC_bts ?_
    (repeat first | exact trivial | refine ⟨rfl, ?_⟩ | refine ⟨fun _ _ => ⟨rfl, trivial⟩, ?_⟩ | refine ⟨fun _ _ => trivial, ?_⟩ | refine ⟨by omega, ?_⟩ | refine ⟨fun _ _ => eqC_winS, ?_⟩ | refine ⟨fun _ _ => eqC_winM, ?_⟩ | refine ⟨fun _ _ => eqC_winB, ?_⟩ | refine ⟨fun _ _ => eqC_selfB, ?_⟩ | refine ⟨fun _ _ => eqC_mpB, ?_⟩)
  have e0 : decide (many < 0) = false := decide_eq_false h0
  by_cases h1 : 8160 < many
  · have e1 : decide (8160 < many) = true := decide_eq_true h1
    (repeat first | refine ⟨fun _ => ?_, fun h => absurd h (by rw [e0]; decide)⟩ | refine ⟨fun h => absurd h (by rw [e0]; decide), fun _ => ?_⟩ | refine ⟨fun _ => ?_, fun h => absurd h (by rw [e1]; decide)⟩ | refine ⟨fun h => absurd h (by rw [e1]; decide), fun _ => ?_⟩ | refine ⟨fun _ => ?_, fun h => Bool.noConfusion h⟩ | refine ⟨fun h => Bool.noConfusion h, fun _ => ?_⟩)
    refine ⟨.tup [.c (.slc none 0 0), .c (.int .i64 2)], [bts za Na oa about.length (L about), shaT dn 0 f g], ⟨[0, 1], ⟨rfl, rfl, rfl⟩, ?_⟩, fun _ => ⟨rfl, rfl⟩, fun _ h => absurd h1 (by omega)⟩
    (repeat first | exact trivial | refine ⟨rfl, ?_⟩ | refine ⟨fun _ _ => ⟨rfl, trivial⟩, ?_⟩ | refine ⟨fun _ _ => trivial, ?_⟩ | refine ⟨by omega, ?_⟩ | refine ⟨fun _ _ => eqC_winS, ?_⟩ | refine ⟨fun _ _ => eqC_winM, ?_⟩ | refine ⟨fun _ _ => eqC_winB, ?_⟩ | refine ⟨fun _ _ => eqC_selfB, ?_⟩ | refine ⟨fun _ _ => eqC_mpB, ?_⟩)
    refine eqC_bts ?_
    (repeat first | exact trivial | refine ⟨rfl, ?_⟩ | refine ⟨fun _ _ => ⟨rfl, trivial⟩, ?_⟩ | refine ⟨fun _ _ => trivial, ?_⟩ | refine ⟨by omega, ?_⟩ | refine ⟨fun _ _ => eqC_winS, ?_⟩ | refine ⟨fun _ _ => eqC_winM, ?_⟩ | refine ⟨fun _ _ => eqC_winB, ?_⟩ | refine ⟨fun _ _ => eqC_selfB, ?_⟩ | refine ⟨fun _ _ => eqC_mpB, ?_⟩)
  have e1 : decide (8160 < many) = false := decide_eq_false h1
  (repeat first | refine ⟨fun _ => ?_, fun h => absurd h (by rw [e0]; decide)⟩ | refine ⟨fun h => absurd h (by rw [e0]; decide), fun _ => ?_⟩ | refine ⟨fun _ => ?_, fun h => absurd h (by rw [e1]; decide)⟩ | refine ⟨fun h => absurd h (by rw [e1]; decide), fun _ => ?_⟩ | refine ⟨fun _ => ?_, fun h => Bool.noConfusion h⟩ | refine ⟨fun h => Bool.noConfusion h, fun _ => ?_⟩)
  obtain ⟨n, rfl⟩ : ∃ n : Nat, many = n := ⟨many.toNat, by omega⟩
  refine .inl ⟨Option (Nat × Nat), fun x => match x with
    | none => ⟨[.a (.c (.p 1 0 0)), .any, .a (.c (.sn za 0 0 oa about.length ca)), .a (.c (.int .i64 (↑n))), .any, .a (.c (.p 2 0 0)), .any, .any, .any, .any, .a (.c (.slc none 0 0)), .a (.c (.slc none 0 0)), .a (.c (.int .i64 (1))), .any, .any, .any, .any, .any, .any, .any, .any, .any, .any, .any, .any, .any, .any, .any, .any, .any, .any, .any, .any, .any, .any, .any, .any, .any, .any, .any, .any, .any, .any, .any, .any, .any, .any], [bts za Na oa about.length (L about), shaT dn 0 f g, [.row 32 fun i => .w8 (L s i)]]⟩
    | some (k, c) => ⟨[.a (.c (.p 1 0 0)), .any, .a (.c (.sn za 0 0 oa about.length ca)), .a (.c (.int .i64 (↑n))), .any, .a (.c (.p 2 0 0)), .any, .any, .any, .any, .a (.c (.sl 3 0 0 (32 * (k + 1)) c)), .a (.c (.sl 4 0 0 32 32)), .a (.c (.int .i64 (((k + 2 : Nat) : Int)))), .any, .any, .any, .any, .any, .any, .any, .any, .any, .any, .any, .any, .any, .any, .any, .any, .any, .any, .any, .any, .any, .any, .any, .any, .any, .any, .any, .any, .any, .any, .any, .any, .any, .any], [bts za Na oa about.length (L about), shaT 1 0 first steps, [.row 32 fun i => .w8 (L s i)], [.row c (bytesF (32 * (k + 1)) (L (exL s about (k + 1))))], [.row 32 fun i => .w8 (L (exT s about (k + 1)) i)]]⟩,
    fun x => match x with
    | none => True
    | some (k, c) => 32 * k < n ∧ 32 * (k + 1) ≤ c, fun x => match x with
    | none => 9000
    | some (k, _) => 300 - k, ⟨none, [0, 1, 2], ⟨⟨rfl, rfl, rfl⟩, ?_⟩, trivial⟩, fun x => ?_⟩
  · (repeat first | exact trivial | refine ⟨rfl, ?_⟩ | refine ⟨fun _ _ => ⟨rfl, trivial⟩, ?_⟩ | refine ⟨fun _ _ => trivial, ?_⟩ | refine ⟨by omega, ?_⟩ | refine ⟨fun _ _ => eqC_winS, ?_⟩ | refine ⟨fun _ _ => eqC_winM, ?_⟩ | refine ⟨fun _ _ => eqC_winB, ?_⟩ | refine ⟨fun _ _ => eqC_selfB, ?_⟩ | refine ⟨fun _ _ => eqC_mpB, ?_⟩)
    refine eqC_bts ?_
    (repeat first | exact trivial | refine ⟨rfl, ?_⟩ | refine ⟨fun _ _ => ⟨rfl, trivial⟩, ?_⟩ | refine ⟨fun _ _ => trivial, ?_⟩ | refine ⟨by omega, ?_⟩ | refine ⟨fun _ _ => eqC_winS, ?_⟩ | refine ⟨fun _ _ => eqC_winM, ?_⟩ | refine ⟨fun _ _ => eqC_winB, ?_⟩ | refine ⟨fun _ _ => eqC_selfB, ?_⟩ | refine ⟨fun _ _ => eqC_mpB, ?_⟩)
  rcases x with _ | ⟨k, c⟩
  · intro _
    refine ⟨fun h => ?_, fun h => ?_⟩
    · have hn : 0 < n := by have : (0 : Int) < n := of_decide_eq_true h; omega
      obtain ⟨M, hM⟩ : ∃ M, markL s ([] ++ about ++ [BitVec.ofNat 8 1]) = M := ⟨_, rfl⟩
      have hM2 : exT s about 1 = M := hM
      have hMl : M.length = 32 := by rw [← hM, markL_len]
      refine ⟨some [], [11], [(0, true), (1, true), (2, true), (3, true), (4, true), (5, true), (6, true), (7, true), (8, false), (9, false), (10, false), (11, false)], [12], by kernel_rfl, ?_⟩
      (repeat first | refine And.intro (by omega) ?_ | refine And.intro (by decide) ?_ | (with_reducible refine frc_parts (by first | omega | decide) ?_) | (with_reducible refine frc_bytesL (by first | omega | decide) ?_) | refine And.intro rfl ?_)
      refine call_same (fn_smark false true za false 32 0 Na 1 0 0 oa 0 32 0 ca 1 s [] about [BitVec.ofNat 8 1] 3 3 3 dn f g hd (by omega) (by omega) (fun h => Bool.noConfusion h) (by decide) (by decide) (fun _ => rfl) hNa hca hza (by decide) (by decide) (fun h => Bool.noConfusion h) (by decide) (by decide)) [2, 3, 0, 3, 4, 1] rfl ⟨rfl, rfl, rfl, hs.symm, rfl, rfl, rfl, rfl, trivial⟩ ?_ (fun _ _ => trivial) ?_
      · (repeat first | exact trivial | refine ⟨rfl, ?_⟩ | refine ⟨fun _ _ => ⟨rfl, trivial⟩, ?_⟩ | refine ⟨fun _ _ => trivial, ?_⟩ | refine ⟨by omega, ?_⟩ | refine ⟨fun _ _ => eqC_winS, ?_⟩ | refine ⟨fun _ _ => eqC_winM, ?_⟩ | refine ⟨fun _ _ => eqC_winB, ?_⟩ | refine ⟨fun _ _ => eqC_selfB, ?_⟩ | refine ⟨fun _ _ => eqC_mpB, ?_⟩)
        refine ⟨fun j hj => eqC_win8 (fun i hi => rfl) j, ?_⟩
        (repeat first | exact trivial | refine ⟨rfl, ?_⟩ | refine ⟨fun _ _ => ⟨rfl, trivial⟩, ?_⟩ | refine ⟨fun _ _ => trivial, ?_⟩ | refine ⟨by omega, ?_⟩ | refine ⟨fun _ _ => eqC_winS, ?_⟩ | refine ⟨fun _ _ => eqC_winM, ?_⟩ | refine ⟨fun _ _ => eqC_winB, ?_⟩ | refine ⟨fun _ _ => eqC_selfB, ?_⟩ | refine ⟨fun _ _ => eqC_mpB, ?_⟩)
        refine eqC_bts ?_
        (repeat first | exact trivial | refine ⟨rfl, ?_⟩ | refine ⟨fun _ _ => ⟨rfl, trivial⟩, ?_⟩ | refine ⟨fun _ _ => trivial, ?_⟩ | refine ⟨by omega, ?_⟩ | refine ⟨fun _ _ => eqC_winS, ?_⟩ | refine ⟨fun _ _ => eqC_winM, ?_⟩ | refine ⟨fun _ _ => eqC_winB, ?_⟩ | refine ⟨fun _ _ => eqC_selfB, ?_⟩ | refine ⟨fun _ _ => eqC_mpB, ?_⟩)
        refine ⟨fun j hj => eqC_win0 (fun i hi => ?_) j, ?_⟩
        · obtain rfl : i = 0 := by have : i < 1 := hi; omega
          rfl
        (repeat first | exact trivial | refine ⟨rfl, ?_⟩ | refine ⟨fun _ _ => ⟨rfl, trivial⟩, ?_⟩ | refine ⟨fun _ _ => trivial, ?_⟩ | refine ⟨by omega, ?_⟩ | refine ⟨fun _ _ => eqC_winS, ?_⟩ | refine ⟨fun _ _ => eqC_winM, ?_⟩ | refine ⟨fun _ _ => eqC_winB, ?_⟩ | refine ⟨fun _ _ => eqC_selfB, ?_⟩ | refine ⟨fun _ _ => eqC_mpB, ?_⟩)
        refine ⟨fun j hj => eqC_n3 (by decide) (by exact ⟨rfl, rfl, rfl, rfl, rfl, trivial⟩) (by exact fun _ => ⟨rfl, rfl, rfl, rfl, trivial⟩) (by exact fun _ => ⟨rfl, rfl, rfl, rfl, trivial⟩) j, ?_⟩
        (repeat first | exact trivial | refine ⟨rfl, ?_⟩ | refine ⟨fun _ _ => ⟨rfl, trivial⟩, ?_⟩ | refine ⟨fun _ _ => trivial, ?_⟩ | refine ⟨by omega, ?_⟩ | refine ⟨fun _ _ => eqC_winS, ?_⟩ | refine ⟨fun _ _ => eqC_winM, ?_⟩ | refine ⟨fun _ _ => eqC_winB, ?_⟩ | refine ⟨fun _ _ => eqC_selfB, ?_⟩ | refine ⟨fun _ _ => eqC_mpB, ?_⟩)
      rintro x hs' ⟨rfl, rfl⟩
      rw [cat3, hM]
      (repeat first | refine And.intro (by omega) ?_ | refine And.intro (by decide) ?_ | (with_reducible refine frc_parts (by first | omega | decide) ?_) | (with_reducible refine frc_bytesL (by first | omega | decide) ?_) | refine And.intro rfl ?_)
      refine ⟨fun h => absurd h (by decide), fun _ c' hc' => ?_⟩
      refine ⟨⟨by omega, by omega⟩, some (0, c'), [0, 1, 2, 6, 5], ⟨⟨rfl, rfl, rfl⟩, ?_⟩, ⟨by omega, by omega⟩, by first | omega | (dsimp only; omega)⟩
      (repeat first | exact trivial | refine ⟨rfl, ?_⟩ | refine ⟨fun _ _ => ⟨rfl, trivial⟩, ?_⟩ | refine ⟨fun _ _ => trivial, ?_⟩ | refine ⟨by omega, ?_⟩ | refine ⟨fun _ _ => eqC_winS, ?_⟩ | refine ⟨fun _ _ => eqC_winM, ?_⟩ | refine ⟨fun _ _ => eqC_winB, ?_⟩ | refine ⟨fun _ _ => eqC_selfB, ?_⟩ | refine ⟨fun _ _ => eqC_mpB, ?_⟩)
      refine eqC_bts ?_
      (repeat first | exact trivial | refine ⟨rfl, ?_⟩ | refine ⟨fun _ _ => ⟨rfl, trivial⟩, ?_⟩ | refine ⟨fun _ _ => trivial, ?_⟩ | refine ⟨by omega, ?_⟩ | refine ⟨fun _ _ => eqC_winS, ?_⟩ | refine ⟨fun _ _ => eqC_winM, ?_⟩ | refine ⟨fun _ _ => eqC_winB, ?_⟩ | refine ⟨fun _ _ => eqC_selfB, ?_⟩ | refine ⟨fun _ _ => eqC_mpB, ?_⟩)
      refine ⟨fun j hj => eqC_bytes (fun i hi => ?_) j, rfl, fun j hj => ?_, trivial⟩
      · unfold newF
        rw [if_pos (by simpa [scale] using hi)]
        have hE : exL s about 1 = M := by rw [← hM2]; rfl
        show _ = SC.w8 (L (exL s about 1) i)
        rw [hE]
        rfl
      · show eqC _ _ (SC.w8 (L (exT s about 1) j)) True
        rw [hM2]
        exact ⟨rfl, trivial⟩
    · obtain rfl : n = 0 := by have : ¬ (0 : Int) < n := of_decide_eq_false h; omega
      (repeat first | refine And.intro (by omega) ?_ | refine And.intro (by decide) ?_ | (with_reducible refine frc_parts (by first | omega | decide) ?_) | (with_reducible refine frc_bytesL (by first | omega | decide) ?_) | refine And.intro rfl ?_)
      refine ⟨.tup [.c (.sn true 2 0 0 0 0), .c (.int .i64 0)], [bts za Na oa about.length (L about), shaT dn 0 f g, []], ⟨[0, 1, 2], ⟨rfl, rfl, rfl⟩, ?_⟩, fun h => absurd h (by omega), fun _ _ => ⟨true, 0, dn, f, g, hd, fun _ => rfl, fun h => absurd h (by omega), Nat.le_refl _, rfl, rfl⟩⟩
      (repeat first | exact trivial | refine ⟨rfl, ?_⟩ | refine ⟨fun _ _ => ⟨rfl, trivial⟩, ?_⟩ | refine ⟨fun _ _ => trivial, ?_⟩ | refine ⟨by omega, ?_⟩ | refine ⟨fun _ _ => eqC_winS, ?_⟩ | refine ⟨fun _ _ => eqC_winM, ?_⟩ | refine ⟨fun _ _ => eqC_winB, ?_⟩ | refine ⟨fun _ _ => eqC_selfB, ?_⟩ | refine ⟨fun _ _ => eqC_mpB, ?_⟩)
      refine eqC_bts ?_
      (repeat first | exact trivial | refine ⟨rfl, ?_⟩ | refine ⟨fun _ _ => ⟨rfl, trivial⟩, ?_⟩ | refine ⟨fun _ _ => trivial, ?_⟩ | refine ⟨by omega, ?_⟩ | refine ⟨fun _ _ => eqC_winS, ?_⟩ | refine ⟨fun _ _ => eqC_winM, ?_⟩ | refine ⟨fun _ _ => eqC_winB, ?_⟩ | refine ⟨fun _ _ => eqC_selfB, ?_⟩ | refine ⟨fun _ _ => eqC_mpB, ?_⟩)
  · rintro ⟨hk, hc⟩
    refine ⟨fun h => ?_, fun h => ?_⟩
    · have hn : 32 * (k + 1) < n := by have : ((32 * (k + 1) : Nat) : Int) < n := of_decide_eq_true h; omega
      obtain ⟨T, hT⟩ : ∃ T, exT s about (k + 1) = T := ⟨_, rfl⟩
      have hTl : T.length = 32 := by rw [← hT, exT_len]
      obtain ⟨M, hM⟩ : ∃ M, markL s (T ++ about ++ [BitVec.ofNat 8 (k + 2)]) = M := ⟨_, rfl⟩
      have hM2 : exT s about (k + 2) = M := by rw [← hM, ← hT]; rfl
      rw [hT]
      have hMl : M.length = 32 := by rw [← hM, markL_len]
      refine ⟨some [], [11], [(0, true), (1, true), (2, true), (3, true), (4, true), (5, true), (6, true), (7, true), (8, false), (9, false), (10, false), (11, false)], [12], by kernel_rfl, ?_⟩
      (repeat first | refine And.intro (by omega) ?_ | refine And.intro (by decide) ?_ | (with_reducible refine frc_parts (by first | omega | decide) ?_) | (with_reducible refine frc_bytesL (by first | omega | decide) ?_) | refine And.intro rfl ?_)
      refine call_same (fn_smark false false za false 32 32 Na 1 0 0 oa 0 32 32 ca 1 s T about [BitVec.ofNat 8 (k + 2)] 3 3 3 1 first steps (.inr ⟨rfl, rfl, rfl⟩) (by omega) (by omega) (fun h => Bool.noConfusion h) (by omega) (by omega) (fun h => Bool.noConfusion h) hNa hca hza (Nat.le_refl 1) (Nat.le_refl 1) (fun h => Bool.noConfusion h) (by decide) (by decide)) [2, 4, 0, 5, 6, 1] rfl ⟨rfl, rfl, rfl, hs.symm, rfl, rfl, rfl, rfl, trivial⟩ ?_ (fun _ _ => trivial) ?_
      · (repeat first | exact trivial | refine ⟨rfl, ?_⟩ | refine ⟨fun _ _ => ⟨rfl, trivial⟩, ?_⟩ | refine ⟨fun _ _ => trivial, ?_⟩ | refine ⟨by omega, ?_⟩ | refine ⟨fun _ _ => eqC_winS, ?_⟩ | refine ⟨fun _ _ => eqC_winM, ?_⟩ | refine ⟨fun _ _ => eqC_winB, ?_⟩ | refine ⟨fun _ _ => eqC_selfB, ?_⟩ | refine ⟨fun _ _ => eqC_mpB, ?_⟩)
        refine ⟨fun j hj => eqC_win8 (fun i hi => rfl) j, ?_⟩
        (repeat first | exact trivial | refine ⟨rfl, ?_⟩ | refine ⟨fun _ _ => ⟨rfl, trivial⟩, ?_⟩ | refine ⟨fun _ _ => trivial, ?_⟩ | refine ⟨by omega, ?_⟩ | refine ⟨fun _ _ => eqC_winS, ?_⟩ | refine ⟨fun _ _ => eqC_winM, ?_⟩ | refine ⟨fun _ _ => eqC_winB, ?_⟩ | refine ⟨fun _ _ => eqC_selfB, ?_⟩ | refine ⟨fun _ _ => eqC_mpB, ?_⟩)
        refine ⟨fun j hj => eqC_win8 (fun i hi => rfl) j, ?_⟩
        (repeat first | exact trivial | refine ⟨rfl, ?_⟩ | refine ⟨fun _ _ => ⟨rfl, trivial⟩, ?_⟩ | refine ⟨fun _ _ => trivial, ?_⟩ | refine ⟨by omega, ?_⟩ | refine ⟨fun _ _ => eqC_winS, ?_⟩ | refine ⟨fun _ _ => eqC_winM, ?_⟩ | refine ⟨fun _ _ => eqC_winB, ?_⟩ | refine ⟨fun _ _ => eqC_selfB, ?_⟩ | refine ⟨fun _ _ => eqC_mpB, ?_⟩)
        refine eqC_bts ?_
        (repeat first | exact trivial | refine ⟨rfl, ?_⟩ | refine ⟨fun _ _ => ⟨rfl, trivial⟩, ?_⟩ | refine ⟨fun _ _ => trivial, ?_⟩ | refine ⟨by omega, ?_⟩ | refine ⟨fun _ _ => eqC_winS, ?_⟩ | refine ⟨fun _ _ => eqC_winM, ?_⟩ | refine ⟨fun _ _ => eqC_winB, ?_⟩ | refine ⟨fun _ _ => eqC_selfB, ?_⟩ | refine ⟨fun _ _ => eqC_mpB, ?_⟩)
        refine ⟨fun j hj => eqC_win0 (fun i hi => ?_) j, ?_⟩
        · obtain rfl : i = 0 := by have : i < 1 := hi; omega
          exact congrArg SC.w8 (BitVec.ofInt_natCast 8 (k + 2))
        (repeat first | exact trivial | refine ⟨rfl, ?_⟩ | refine ⟨fun _ _ => ⟨rfl, trivial⟩, ?_⟩ | refine ⟨fun _ _ => trivial, ?_⟩ | refine ⟨by omega, ?_⟩ | refine ⟨fun _ _ => eqC_winS, ?_⟩ | refine ⟨fun _ _ => eqC_winM, ?_⟩ | refine ⟨fun _ _ => eqC_winB, ?_⟩ | refine ⟨fun _ _ => eqC_selfB, ?_⟩ | refine ⟨fun _ _ => eqC_mpB, ?_⟩)
        refine ⟨fun j hj => eqC_n3 (by decide) (by exact ⟨rfl, rfl, hTl.symm, rfl, trivial⟩) (by exact fun _ => ⟨rfl, rfl, rfl, rfl, trivial⟩) (by exact fun _ => ⟨rfl, rfl, rfl, rfl, trivial⟩) j, ?_⟩
        (repeat first | exact trivial | refine ⟨rfl, ?_⟩ | refine ⟨fun _ _ => ⟨rfl, trivial⟩, ?_⟩ | refine ⟨fun _ _ => trivial, ?_⟩ | refine ⟨by omega, ?_⟩ | refine ⟨fun _ _ => eqC_winS, ?_⟩ | refine ⟨fun _ _ => eqC_winM, ?_⟩ | refine ⟨fun _ _ => eqC_winB, ?_⟩ | refine ⟨fun _ _ => eqC_selfB, ?_⟩ | refine ⟨fun _ _ => eqC_mpB, ?_⟩)
      rintro x hs' ⟨rfl, rfl⟩
      rw [cat3, hM]
      (repeat first | refine And.intro (by omega) ?_ | refine And.intro (by decide) ?_ | (with_reducible refine frc_parts (by first | omega | decide) ?_) | (with_reducible refine frc_bytesL (by first | omega | decide) ?_) | refine And.intro rfl ?_)
      refine ⟨⟨by omega, by simp only [scale]; omega, by show (32 * (k + 1) + 32) * 1 ≤ 140737488355328; omega⟩, fun c' hc' => ?_⟩
      refine ⟨⟨by omega, by omega⟩, some (k + 1, c'), [0, 1, 2, 8, 7], ⟨⟨rfl, rfl, rfl⟩, ?_⟩, ⟨by omega, by omega⟩, by first | omega | (dsimp only; omega)⟩
      (repeat first | exact trivial | refine ⟨rfl, ?_⟩ | refine ⟨fun _ _ => ⟨rfl, trivial⟩, ?_⟩ | refine ⟨fun _ _ => trivial, ?_⟩ | refine ⟨by omega, ?_⟩ | refine ⟨fun _ _ => eqC_winS, ?_⟩ | refine ⟨fun _ _ => eqC_winM, ?_⟩ | refine ⟨fun _ _ => eqC_winB, ?_⟩ | refine ⟨fun _ _ => eqC_selfB, ?_⟩ | refine ⟨fun _ _ => eqC_mpB, ?_⟩)
      refine eqC_bts ?_
      (repeat first | exact trivial | refine ⟨rfl, ?_⟩ | refine ⟨fun _ _ => ⟨rfl, trivial⟩, ?_⟩ | refine ⟨fun _ _ => trivial, ?_⟩ | refine ⟨by omega, ?_⟩ | refine ⟨fun _ _ => eqC_winS, ?_⟩ | refine ⟨fun _ _ => eqC_winM, ?_⟩ | refine ⟨fun _ _ => eqC_winB, ?_⟩ | refine ⟨fun _ _ => eqC_selfB, ?_⟩ | refine ⟨fun _ _ => eqC_mpB, ?_⟩)
      refine ⟨fun j hj => eqC_bytes (fun i hi => ?_) j, rfl, fun j hj => ?_, trivial⟩
      · unfold appF
        have hE : exL s about (k + 2) = exL s about (k + 1) ++ M := by rw [← hM2]; rfl
        show _ = SC.w8 (L (exL s about (k + 2)) i)
        rw [hE, L_app, exL_len]
        by_cases h2 : i < 32 * (k + 1)
        · rw [if_pos (by simpa [scale] using h2), if_pos h2]
          exact bytesF_lt h2
        · rw [if_neg (by simpa [scale] using h2), if_pos (by simp only [scale]; omega), if_neg h2]
          rfl
      · show eqC _ _ (SC.w8 (L (exT s about (k + 2)) j)) True
        rw [hM2]
        exact ⟨rfl, trivial⟩
    · have hn : n ≤ 32 * (k + 1) := by have : ¬ ((32 * (k + 1) : Nat) : Int) < n := of_decide_eq_false h; omega
      (repeat first | refine And.intro (by omega) ?_ | refine And.intro (by decide) ?_ | (with_reducible refine frc_parts (by first | omega | decide) ?_) | (with_reducible refine frc_bytesL (by first | omega | decide) ?_) | refine And.intro rfl ?_)
      refine ⟨.tup [.c (.sn false 2 0 0 n n), .c (.int .i64 0)], [bts za Na oa about.length (L about), shaT 1 0 first steps, bts false c 0 n (exF s about)], ⟨[0, 1, 3], ⟨rfl, rfl, rfl⟩, ?_⟩, fun h => absurd h (by omega), fun _ _ => ⟨false, c, 1, first, steps, .inr ⟨rfl, rfl, rfl⟩, fun h => Bool.noConfusion h, fun _ => rfl, by omega, rfl, rfl⟩⟩
      refine ⟨rfl, ?_, rfl, rfl, rfl, ?_⟩
      · split <;> rfl
      refine eqC_bts ?_
      (repeat first | exact trivial | refine ⟨rfl, ?_⟩ | refine ⟨fun _ _ => ⟨rfl, trivial⟩, ?_⟩ | refine ⟨fun _ _ => trivial, ?_⟩ | refine ⟨by omega, ?_⟩ | refine ⟨fun _ _ => eqC_winS, ?_⟩ | refine ⟨fun _ _ => eqC_winM, ?_⟩ | refine ⟨fun _ _ => eqC_winB, ?_⟩ | refine ⟨fun _ _ => eqC_selfB, ?_⟩ | refine ⟨fun _ _ => eqC_mpB, ?_⟩)
      exact ⟨fun j hj => eqC_win0 (fun i hi => by rw [bytesF_lt (by omega), exL_at _ _ _ _ (by omega)]) j, trivial⟩
end Sx
end Go.Proofs.Ytndlhhhebijknaa
end

section
/-
  Secrets out of secrets: the document's Expand. No condition.
-/
namespace Go.Proofs.Ytndlhhhebijknaa
set_option linter.unusedVariables false
namespace Sx
open Sha

theorem app_row {f g : Nat → SC} {l m : Bs} {n k : Nat} (hn : l.length = n) (hk : m.length = k) (hf : ∀ i, i < n → f i = .w8 (L l i)) (hg : ∀ i, i < k → g i = .w8 (L m i)) (i : Nat) (hi : i < n + k) :
    appF f 0 (scale n (0 + 1)) (scale k (0 + 1)) g i = .w8 (L (l ++ m) i) := by
  have e1 : scale n (0 + 1) = n := by rw [scale_eq, Nat.zero_add, Nat.mul_one]
  have e2 : scale k (0 + 1) = k := by rw [scale_eq, Nat.zero_add, Nat.mul_one]
  unfold appF
  rw [e1, e2, L_app, hn]
  by_cases h : i < n
  · rw [if_pos h, if_pos h]; exact hf i h
  · rw [if_neg h, if_pos hi, if_neg h]; exact hg _ (by omega)
theorem new_row {g : Nat → SC} {m : Bs} {k : Nat} (hg : ∀ i, i < k → g i = .w8 (L m i)) (i : Nat) (hi : i < k) : newF (scale k (0 + 1)) g i = .w8 (L m i) := by
  have e2 : scale k (0 + 1) = k := by rw [scale_eq, Nat.zero_add, Nat.mul_one]
  unfold newF
  rw [e2, if_pos hi]; exact hg i hi
theorem one_row {x y : BitVec 8} (h : x = y) (i : Nat) (hi : i < 1) : nthC [.w8 x] i = .w8 (L [y] i) := by
  obtain rfl : i = 0 := by omega
  subst h; rfl
set_option maxRecDepth 20000 in
set_option maxHeartbeats 2000000 in
theorem fn_rexpand (zs za : Bool) (Ns Na os oa cs ca : Nat) (s about : Bs) (n : Nat) (hNs : os + s.length ≤ Ns) (hcs : s.length ≤ cs) (hzs : zs = true → s = []) (hNa : oa + about.length ≤ Na) (hca : about.length ≤ ca) (hza : za = true → about = [])
    (hsl : s.length < 1000000) (hal : about.length < 1000000) (hn : n ≤ 100000) :
    FnR Try.prog tds 24 2 [bts zs Ns os s.length (L s), bts za Na oa about.length (L about)] [.c (.sn zs 0 0 os s.length cs), .c (.sn za 1 0 oa about.length ca), .c (.int .i64 (n : Int))] (fun _ => True)
      (fun x hs => (n = 0 → x = .a (.c (.slc none 0 0)) ∧ hs = [bts zs Ns os s.length (L s), bts za Na oa about.length (L about)]) ∧ (0 < n → ∃ N c : Nat, n ≤ N ∧ n ≤ c ∧ x = .a (.c (.sl 2 0 0 n c)) ∧ hs = [bts zs Ns os s.length (L s), bts za Na oa about.length (L about), [.row N (winF 0 n (exF s about))]])) := by
  refine fn_of_body tds_ok follows_ Try.func24 rfl (t := [.a (.c (.sn zs 0 0 os s.length cs)), .a (.c (.sn za 1 0 oa about.length ca)), .a (.c (.int .i64 (↑n))), .any, .any, .any, .any, .any, .any, .any, .any, .any, .any, .any, .any, .any, .any, .any, .any, .any, .any, .any, .any, .any, .any, .any, .any, .any, .any, .any, .any, .any, .any, .any, .any, .any]) rfl (fun w r0 hr _ => ?_)
  obtain ⟨x0, x1, rfl⟩ := len2' hr
  refine .inl ⟨Option (Nat × Nat × Nat), fun x => match x with
    | none => ⟨[.a (.c (.sn zs 0 0 os s.length cs)), .a (.c (.sn za 1 0 oa about.length ca)), .a (.c (.int .i64 (↑n))), .any, .any, .any, .any, .a (.c (.slc none 0 0)), .a (.c (.slc none 0 0)), .a (.c (.int .i64 (1))), .any, .any, .any, .any, .any, .any, .any, .any, .any, .any, .any, .any, .any, .any, .any, .any, .any, .any, .any, .any, .any, .any, .any, .any, .any, .any], [bts zs Ns os s.length (L s), bts za Na oa about.length (L about)]⟩
    | some (k, c, cl) => ⟨[.a (.c (.sn zs 0 0 os s.length cs)), .a (.c (.sn za 1 0 oa about.length ca)), .a (.c (.int .i64 (↑n))), .any, .any, .any, .any, .a (.c (.sl 2 0 0 (32 * (k + 1)) c)), .a (.c (.sl 3 0 0 32 cl)), .a (.c (.int .i64 (((k + 2 : Nat) : Int)))), .any, .any, .any, .any, .any, .any, .any, .any, .any, .any, .any, .any, .any, .any, .any, .any, .any, .any, .any, .any, .any, .any, .any, .any, .any, .any], [bts zs Ns os s.length (L s), bts za Na oa about.length (L about), [.row c (bytesF (32 * (k + 1)) (L (exL s about (k + 1))))], [.row cl (bytesF 32 (L (exT s about (k + 1))))]]⟩,
    fun x => match x with
    | none => True
    | some (k, c, cl) => 32 * k < n ∧ 32 * (k + 1) ≤ c ∧ 32 ≤ cl, fun x => match x with
    | none => 9000
    | some (k, _, _) => 5000 - k, ⟨none, [0, 1], ⟨⟨rfl, rfl, rfl⟩, ?_⟩, trivial⟩, fun x => ?_⟩
  · (repeat first | exact trivial | refine ⟨rfl, ?_⟩ | refine ⟨fun _ _ => ⟨rfl, trivial⟩, ?_⟩ | refine ⟨fun _ _ => trivial, ?_⟩ | refine ⟨by omega, ?_⟩ | refine ⟨fun _ _ => eqC_winS, ?_⟩ | refine ⟨fun _ _ => eqC_winM, ?_⟩ | refine ⟨fun _ _ => eqC_winB, ?_⟩ | refine ⟨fun _ _ => eqC_selfB, ?_⟩ | refine ⟨fun _ _ => eqC_mpB, ?_⟩)
    refine eqC_bts (eqC_bts ?_)
    (repeat first | exact trivial | refine ⟨rfl, ?_⟩ | refine ⟨fun _ _ => ⟨rfl, trivial⟩, ?_⟩ | refine ⟨fun _ _ => trivial, ?_⟩ | refine ⟨by omega, ?_⟩ | refine ⟨fun _ _ => eqC_winS, ?_⟩ | refine ⟨fun _ _ => eqC_winM, ?_⟩ | refine ⟨fun _ _ => eqC_winB, ?_⟩ | refine ⟨fun _ _ => eqC_selfB, ?_⟩ | refine ⟨fun _ _ => eqC_mpB, ?_⟩)
  rcases x with _ | ⟨k, c, cl⟩
  · intro _
    refine ⟨fun h => ?_, fun h => ?_⟩
    · have hn : 0 < n := by have : (0 : Int) < n := of_decide_eq_true h; omega
      obtain ⟨T, hT⟩ : ∃ T : Bs, [] = T := ⟨_, rfl⟩
      have hTl : T.length = 0 := by rw [← hT]; rfl
      obtain ⟨M, hM⟩ : ∃ M, markL s (T ++ about ++ [BitVec.ofNat 8 1]) = M := ⟨_, rfl⟩
      have hM2 : exT s about 1 = M := by rw [← hM, ← hT]; rfl
      have hMl : M.length = 32 := by rw [← hM, markL_len]
      (repeat first | refine And.intro (by omega) ?_ | refine And.intro (by decide) ?_ | (with_reducible refine frc_parts (by first | omega | decide) ?_) | (with_reducible refine frc_bytesL (by first | omega | decide) ?_) | refine And.intro rfl ?_)
      refine fun c1 hc1 => ?_
      have r1 : ∀ i, i < 0 + 0 → appF (nthC []) 0 (scale 0 (0 + 1)) (scale 0 (0 + 1)) (fun _ => SC.any) i = .w8 (L ([] ++ T) i) := app_row (n := 0) (k := 0) rfl hTl (fun i hi => absurd hi (by omega)) (fun i hi => absurd hi (by omega))
      refine sn_bts (N := Na) (b := L about) ?_ hNa (fun h => by rw [hza h]; rfl) (fun g hg => ?_)
      · rfl
      refine ⟨⟨by omega, by simp only [scale]; omega, by show (0 + 0 + about.length) * 1 ≤ 140737488355328; omega⟩, fun c2 hc2 => ?_⟩
      have r2 := app_row (n := 0 + 0) (by simp [hTl]) rfl r1 hg
      (repeat first | refine And.intro (by omega) ?_ | refine And.intro (by decide) ?_ | (with_reducible refine frc_parts (by first | omega | decide) ?_) | (with_reducible refine frc_bytesL (by first | omega | decide) ?_) | refine And.intro rfl ?_)
      refine ⟨⟨by omega, by simp only [scale]; omega, by show (0 + 0 + about.length + 1) * 1 ≤ 140737488355328; omega⟩, fun c3 hc3 => ?_⟩
      have r3 := app_row (m := [BitVec.ofNat 8 1]) (k := 1) (by rw [List.length_append, List.nil_append, hTl, Nat.zero_add]) rfl r2 (one_row (x := BitVec.ofInt 8 1) rfl)
      rw [List.nil_append] at r3
      have hXl : (T ++ about ++ [BitVec.ofNat 8 1]).length = 0 + 0 + about.length + 1 := by rw [List.length_append, List.length_append, hTl]; simp
      obtain ⟨X, hX⟩ : ∃ X, T ++ about ++ [BitVec.ofNat 8 1] = X := ⟨_, rfl⟩
      rw [hX] at r3 hXl hM
      refine ⟨by kernel_rfl, call_same (fn_rmark zs false Ns c3 os 0 cs c3 s X hNs hcs hzs (by omega) (by omega) (fun h => Bool.noConfusion h) (by omega) (by omega)) [0, 6] rfl ⟨rfl, rfl, rfl, rfl, rfl, rfl, hXl.symm, rfl, trivial⟩ ?_ (fun _ _ => trivial) ?_⟩
      · refine eqC_bts ?_
        exact ⟨rfl, fun j hj => eqC_win0 (fun i hi => r3 i (by omega)) j, trivial⟩
      rintro x hs' ⟨c4, rfl, rfl, hc4⟩
      rw [hM]
      refine ⟨by simp only [scale]; omega, ⟨rfl, rfl⟩, by decide, fun h => absurd h (by decide), fun _ c5 hc5 => ?_⟩
      refine ⟨⟨by omega, by omega⟩, some (0, c5, c4), [0, 1, 8, 7], ⟨⟨rfl, rfl, rfl⟩, ?_⟩, ⟨by omega, by omega, hc4⟩, by first | omega | (dsimp only; omega)⟩
      (repeat first | exact trivial | refine ⟨rfl, ?_⟩ | refine ⟨fun _ _ => ⟨rfl, trivial⟩, ?_⟩ | refine ⟨fun _ _ => trivial, ?_⟩ | refine ⟨by omega, ?_⟩ | refine ⟨fun _ _ => eqC_winS, ?_⟩ | refine ⟨fun _ _ => eqC_winM, ?_⟩ | refine ⟨fun _ _ => eqC_winB, ?_⟩ | refine ⟨fun _ _ => eqC_selfB, ?_⟩ | refine ⟨fun _ _ => eqC_mpB, ?_⟩)
      refine eqC_bts (eqC_bts ?_)
      (repeat first | exact trivial | refine ⟨rfl, ?_⟩ | refine ⟨fun _ _ => ⟨rfl, trivial⟩, ?_⟩ | refine ⟨fun _ _ => trivial, ?_⟩ | refine ⟨by omega, ?_⟩ | refine ⟨fun _ _ => eqC_winS, ?_⟩ | refine ⟨fun _ _ => eqC_winM, ?_⟩ | refine ⟨fun _ _ => eqC_winB, ?_⟩ | refine ⟨fun _ _ => eqC_selfB, ?_⟩ | refine ⟨fun _ _ => eqC_mpB, ?_⟩)
      refine ⟨fun j hj => eqC_bytes (fun i hi => ?_) j, rfl, fun j hj => ?_, trivial⟩
      · show _ = SC.w8 (L (exL s about 1) i)
        rw [show exL s about 1 = M by rw [← hM2]; rfl]
        refine new_row (fun i hi => ?_) i hi
        show SC.mp _ (bytesF 32 (L M) (i + 0)) = _
        rw [bytesF_lt (by omega)]
        rfl
      · show eqC _ _ (bytesF 32 (L (exT s about 1)) j) True
        rw [hM2]
        exact eqC_mpB
    · obtain rfl : n = 0 := by have : ¬ (0 : Int) < n := of_decide_eq_false h; omega
      (repeat first | refine And.intro (by omega) ?_ | refine And.intro (by decide) ?_ | (with_reducible refine frc_parts (by first | omega | decide) ?_) | (with_reducible refine frc_bytesL (by first | omega | decide) ?_) | refine And.intro rfl ?_)
      refine ⟨.a (.c (.slc none 0 0)), [bts zs Ns os s.length (L s), bts za Na oa about.length (L about)], ⟨[0, 1], ⟨rfl, rfl, rfl⟩, ?_⟩, fun _ => ⟨rfl, rfl⟩, fun h => absurd h (by omega)⟩
      (repeat first | exact trivial | refine ⟨rfl, ?_⟩ | refine ⟨fun _ _ => ⟨rfl, trivial⟩, ?_⟩ | refine ⟨fun _ _ => trivial, ?_⟩ | refine ⟨by omega, ?_⟩ | refine ⟨fun _ _ => eqC_winS, ?_⟩ | refine ⟨fun _ _ => eqC_winM, ?_⟩ | refine ⟨fun _ _ => eqC_winB, ?_⟩ | refine ⟨fun _ _ => eqC_selfB, ?_⟩ | refine ⟨fun _ _ => eqC_mpB, ?_⟩)
      refine eqC_bts (eqC_bts ?_)
      (repeat first | exact trivial | refine ⟨rfl, ?_⟩ | refine ⟨fun _ _ => ⟨rfl, trivial⟩, ?_⟩ | refine ⟨fun _ _ => trivial, ?_⟩ | refine ⟨by omega, ?_⟩ | refine ⟨fun _ _ => eqC_winS, ?_⟩ | refine ⟨fun _ _ => eqC_winM, ?_⟩ | refine ⟨fun _ _ => eqC_winB, ?_⟩ | refine ⟨fun _ _ => eqC_selfB, ?_⟩ | refine ⟨fun _ _ => eqC_mpB, ?_⟩)
  · rintro ⟨hk, hc, hcl⟩
    refine ⟨fun h => ?_, fun h => ?_⟩
    · have hn : 32 * (k + 1) < n := by have : ((32 * (k + 1) : Nat) : Int) < n := of_decide_eq_true h; omega
      obtain ⟨T, hT⟩ : ∃ T, exT s about (k + 1) = T := ⟨_, rfl⟩
      have hTl : T.length = 32 := by rw [← hT, exT_len]
      obtain ⟨M, hM⟩ : ∃ M, markL s (T ++ about ++ [BitVec.ofNat 8 (k + 2)]) = M := ⟨_, rfl⟩
      have hM2 : exT s about (k + 2) = M := by rw [← hM, ← hT]; rfl
      rw [hT]
      have hMl : M.length = 32 := by rw [← hM, markL_len]
      (repeat first | refine And.intro (by omega) ?_ | refine And.intro (by decide) ?_ | (with_reducible refine frc_parts (by first | omega | decide) ?_) | (with_reducible refine frc_bytesL (by first | omega | decide) ?_) | refine And.intro rfl ?_)
      refine ⟨by simp only [scale]; omega, ⟨by decide, by decide, by decide⟩, fun c1 hc1 => ?_⟩
      have r1 : ∀ i, i < 0 + 32 → appF (nthC []) 0 (scale 0 (0 + 1)) (scale 32 (0 + 1)) (fun q => bytesF 32 (L T) (q + 0)) i = .w8 (L ([] ++ T) i) := app_row (n := 0) (k := 32) rfl hTl (fun i hi => absurd hi (by omega)) (fun i hi => bytesF_lt hi)
      refine sn_bts (N := Na) (b := L about) ?_ hNa (fun h => by rw [hza h]; rfl) (fun g hg => ?_)
      · rfl
      refine ⟨⟨by omega, by simp only [scale]; omega, by show (0 + 32 + about.length) * 1 ≤ 140737488355328; omega⟩, fun c2 hc2 => ?_⟩
      have r2 := app_row (n := 0 + 32) (by simp [hTl]) rfl r1 hg
      (repeat first | refine And.intro (by omega) ?_ | refine And.intro (by decide) ?_ | (with_reducible refine frc_parts (by first | omega | decide) ?_) | (with_reducible refine frc_bytesL (by first | omega | decide) ?_) | refine And.intro rfl ?_)
      refine ⟨⟨by omega, by simp only [scale]; omega, by show (0 + 32 + about.length + 1) * 1 ≤ 140737488355328; omega⟩, fun c3 hc3 => ?_⟩
      have r3 := app_row (m := [BitVec.ofNat 8 (k + 2)]) (k := 1) (by rw [List.length_append, List.nil_append, hTl, Nat.zero_add]) rfl r2 (one_row (BitVec.ofInt_natCast 8 (k + 2)))
      rw [List.nil_append] at r3
      have hXl : (T ++ about ++ [BitVec.ofNat 8 (k + 2)]).length = 0 + 32 + about.length + 1 := by rw [List.length_append, List.length_append, hTl]; simp
      obtain ⟨X, hX⟩ : ∃ X, T ++ about ++ [BitVec.ofNat 8 (k + 2)] = X := ⟨_, rfl⟩
      rw [hX] at r3 hXl hM
      refine ⟨by kernel_rfl, call_same (fn_rmark zs false Ns c3 os 0 cs c3 s X hNs hcs hzs (by omega) (by omega) (fun h => Bool.noConfusion h) (by omega) (by omega)) [0, 8] rfl ⟨rfl, rfl, rfl, rfl, rfl, rfl, hXl.symm, rfl, trivial⟩ ?_ (fun _ _ => trivial) ?_⟩
      · refine eqC_bts ?_
        exact ⟨rfl, fun j hj => eqC_win0 (fun i hi => r3 i (by omega)) j, trivial⟩
      rintro x hs' ⟨c4, rfl, rfl, hc4⟩
      rw [hM]
      refine ⟨by simp only [scale]; omega, ⟨by omega, by simp only [scale]; omega, by show (32 * (k + 1) + 32) * 1 ≤ 140737488355328; omega⟩, fun c5 hc5 => ?_⟩
      refine ⟨⟨by omega, by omega⟩, some (k + 1, c5, c4), [0, 1, 10, 9], ⟨⟨rfl, rfl, rfl⟩, ?_⟩, ⟨by omega, by omega, hc4⟩, by first | omega | (dsimp only; omega)⟩
      (repeat first | exact trivial | refine ⟨rfl, ?_⟩ | refine ⟨fun _ _ => ⟨rfl, trivial⟩, ?_⟩ | refine ⟨fun _ _ => trivial, ?_⟩ | refine ⟨by omega, ?_⟩ | refine ⟨fun _ _ => eqC_winS, ?_⟩ | refine ⟨fun _ _ => eqC_winM, ?_⟩ | refine ⟨fun _ _ => eqC_winB, ?_⟩ | refine ⟨fun _ _ => eqC_selfB, ?_⟩ | refine ⟨fun _ _ => eqC_mpB, ?_⟩)
      refine eqC_bts (eqC_bts ?_)
      (repeat first | exact trivial | refine ⟨rfl, ?_⟩ | refine ⟨fun _ _ => ⟨rfl, trivial⟩, ?_⟩ | refine ⟨fun _ _ => trivial, ?_⟩ | refine ⟨by omega, ?_⟩ | refine ⟨fun _ _ => eqC_winS, ?_⟩ | refine ⟨fun _ _ => eqC_winM, ?_⟩ | refine ⟨fun _ _ => eqC_winB, ?_⟩ | refine ⟨fun _ _ => eqC_selfB, ?_⟩ | refine ⟨fun _ _ => eqC_mpB, ?_⟩)
      refine ⟨fun j hj => eqC_bytes (fun i hi => ?_) j, rfl, fun j hj => ?_, trivial⟩
      · show _ = SC.w8 (L (exL s about (k + 2)) i)
        rw [show exL s about (k + 2) = exL s about (k + 1) ++ M by rw [← hM2]; rfl]
        refine app_row (exL_len _ _ _) hMl (fun i hi => bytesF_lt hi) (fun i hi => ?_) i (by have : i < 32 * (k + 1 + 1) := hi; omega)
        show SC.mp _ (bytesF 32 (L M) (i + 0)) = _
        rw [bytesF_lt (by omega)]
        rfl
      · show eqC _ _ (bytesF 32 (L (exT s about (k + 2))) j) True
        rw [hM2]
        exact eqC_mpB
    · have hn : n ≤ 32 * (k + 1) := by have : ¬ ((32 * (k + 1) : Nat) : Int) < n := of_decide_eq_false h; omega
      (repeat first | refine And.intro (by omega) ?_ | refine And.intro (by decide) ?_ | (with_reducible refine frc_parts (by first | omega | decide) ?_) | (with_reducible refine frc_bytesL (by first | omega | decide) ?_) | refine And.intro rfl ?_)
      refine ⟨.a (.c (.sl 2 0 0 n c)), [bts zs Ns os s.length (L s), bts za Na oa about.length (L about), [.row c (winF 0 n (exF s about))]], ⟨[0, 1, 2], ⟨rfl, rfl, rfl⟩, ?_⟩, fun h => absurd h (by omega), fun _ => ⟨c, c, by omega, by omega, rfl, rfl⟩⟩
      refine ⟨?_, rfl, rfl, ?_⟩
      · split <;> rfl
      refine eqC_bts (eqC_bts ?_)
      (repeat first | exact trivial | refine ⟨rfl, ?_⟩ | refine ⟨fun _ _ => ⟨rfl, trivial⟩, ?_⟩ | refine ⟨fun _ _ => trivial, ?_⟩ | refine ⟨by omega, ?_⟩ | refine ⟨fun _ _ => eqC_winS, ?_⟩ | refine ⟨fun _ _ => eqC_winM, ?_⟩ | refine ⟨fun _ _ => eqC_winB, ?_⟩ | refine ⟨fun _ _ => eqC_selfB, ?_⟩ | refine ⟨fun _ _ => eqC_mpB, ?_⟩)
      exact ⟨fun j hj => eqC_win0 (fun i hi => by rw [bytesF_lt (by omega), exL_at _ _ _ _ (by omega)]) j, trivial⟩
end Sx
end Go.Proofs.Ytndlhhhebijknaa
end

section
/-
  Secrets out of secrets: labels. No condition.
-/
namespace Go.Proofs.Ytndlhhhebijknaa
set_option linter.unusedVariables false
namespace Sha
def tls : Bs := [116#8, 108#8, 115#8, 49#8, 51#8, 32#8]
def BS (l : List UInt8) : Bs := l.map UInt8.toBitVec
@[simp] theorem BS_len (l : List UInt8) : (BS l).length = l.length := by simp [BS]
theorem L_BS (l : List UInt8) (i : Nat) (hi : i < l.length) : L (BS l) i = (l.getD i 0).toBitVec := by
  rw [L_lt (by simpa using hi), List.getD_eq_getElem?_getD, List.getElem?_eq_getElem hi]
  simp [BS]
/-- What a label is made of. -/
def labT (lab : List UInt8) (ctx : Bs) (n : Nat) : Bs := [BitVec.ofNat 8 (n / 256), BitVec.ofNat 8 n, BitVec.ofNat 8 (6 + lab.length)] ++ tls ++ BS lab ++ [BitVec.ofNat 8 ctx.length] ++ ctx
theorem labT_len (lab : List UInt8) (ctx : Bs) (n : Nat) : (labT lab ctx n).length = 3 + 6 + lab.length + 1 + ctx.length := by simp [labT, tls]; omega
end Sha
namespace Sx
open Sha

theorem BS_row (l : List UInt8) (i : Nat) (hi : i < l.length) : SC.w8 (l.getD i 0).toBitVec = .w8 (L (BS l) i) := congrArg SC.w8 (L_BS l i hi).symm
theorem tls_row (i : Nat) (hi : i < 6) : SC.w8 (List.getD [116, 108, 115, 49, 51, 32] i (0 : UInt8)).toBitVec = .w8 (L tls i) := by
  have : i = 0 ∨ i = 1 ∨ i = 2 ∨ i = 3 ∨ i = 4 ∨ i = 5 := by omega
  rcases this with rfl | rfl | rfl | rfl | rfl | rfl <;> rfl
theorem three {x y z x' y' z' : BitVec 8} (hx : x = x') (hy : y = y') (hz : z = z') (i : Nat) (hi : i < 3) : nthC [.w8 x, .w8 y, .w8 z] i = .w8 (L [x', y', z'] i) := by
  subst hx; subst hy; subst hz
  have : i = 0 ∨ i = 1 ∨ i = 2 := by omega
  rcases this with rfl | rfl | rfl <;> rfl
theorem ofNat_mod8 (n : Nat) : BitVec.ofNat 8 (n % 256) = BitVec.ofNat 8 n := by
  apply BitVec.eq_of_toNat_eq
  simp [BitVec.toNat_ofNat]
set_option maxRecDepth 20000 in
set_option maxHeartbeats 2000000 in
theorem fn_klabel (zc : Bool) (Nc oc cc : Nat) (s ctx : Bs) (lab : List UInt8) (many : Int) (dn : BitVec 32) (f g : Nat → BitVec 32) (hd : dn = 0#32 ∨ dn = 1#32 ∧ f = first ∧ g = steps)
    (hs : s.length = 32) (hNc : oc + ctx.length ≤ Nc) (hcc : ctx.length ≤ cc) (hzc : zc = true → ctx = []) :
    FnR Try.prog tds 25 1 [bts zc Nc oc ctx.length (L ctx), shaT dn 0 f g] [.c (.p 1 0 0), .agg [.row 32 fun i => .w8 (L s i)], .c (.str lab), .c (.sn zc 0 0 oc ctx.length cc), .c (.int .i64 many)] (fun _ => True)
      (fun x hs => ((249 < lab.length ∨ 255 < ctx.length) → x = .tup [.c (.slc none 0 0), .c (.int .i64 6)] ∧ hs = [bts zc Nc oc ctx.length (L ctx), shaT dn 0 f g]) ∧
        (lab.length ≤ 249 → ctx.length ≤ 255 → (many < 0 ∨ 8160 < many) → x = .tup [.c (.slc none 0 0), .c (.int .i64 2)] ∧ hs = [bts zc Nc oc ctx.length (L ctx), shaT dn 0 f g]) ∧
        (lab.length ≤ 249 → ctx.length ≤ 255 → 0 ≤ many → many ≤ 8160 → ∃ (z : Bool) (N : Nat) (dn' : BitVec 32) (f' g' : Nat → BitVec 32), (dn' = 0#32 ∨ dn' = 1#32 ∧ f' = first ∧ g' = steps) ∧ (z = true → many.toNat = 0) ∧ (0 < many → z = false) ∧ many.toNat ≤ N ∧
          x = .tup [.c (.sn z 2 0 0 many.toNat many.toNat), .c (.int .i64 0)] ∧ hs = [bts zc Nc oc ctx.length (L ctx), shaT dn' 0 f' g', bts z N 0 many.toNat (exF s (labT lab ctx many.toNat))])) := by
  refine fn_of_body tds_ok follows_ Try.func25 rfl (t := [.a (.c (.p 1 0 0)), .a (.agg [.row 32 fun i => .w8 (L s i)]), .a (.c (.str (lab))), .a (.c (.sn zc 0 0 oc ctx.length cc)), .a (.c (.int .i64 (many))), .any, .any, .any, .any, .any, .any, .any, .any, .any, .any, .any, .any, .any, .any, .any, .any, .any, .any, .any, .any, .any, .any, .any, .any, .any, .any, .any, .any, .any, .any, .any, .any, .any, .any, .any, .any, .any, .any, .any, .any, .any, .any, .any, .any, .any, .any, .any, .any, .any, .any, .any, .any, .any, .any, .any]) rfl (fun w r0 hr _ => ?_)
  obtain ⟨x0, x1, rfl⟩ := len2' hr
  (repeat first | refine And.intro (by omega) ?_ | refine And.intro (by decide) ?_ | (with_reducible refine frc_parts (by first | omega | decide) ?_) | (with_reducible refine frc_bytesL (by first | omega | decide) ?_) | refine And.intro rfl ?_)
  refine ⟨fun h => Bool.noConfusion h, fun _ => ?_⟩
  by_cases h0 : 249 < lab.length
  · have e0 : decide ((249 : Int) < (lab.length : Int)) = true := decide_eq_true (by omega)
    (repeat first | refine ⟨fun _ => ?_, fun h => absurd h (by rw [e0]; decide)⟩ | refine ⟨fun h => absurd h (by rw [e0]; decide), fun _ => ?_⟩ | refine ⟨fun _ => ?_, fun h => Bool.noConfusion h⟩ | refine ⟨fun h => Bool.noConfusion h, fun _ => ?_⟩)
    refine ⟨.tup [.c (.slc none 0 0), .c (.int .i64 6)], [bts zc Nc oc ctx.length (L ctx), shaT dn 0 f g], ⟨[0, 1], ⟨rfl, rfl, rfl⟩, ?_⟩, fun _ => ⟨rfl, rfl⟩, fun h => absurd h (by omega), fun h => absurd h (by omega)⟩
    (repeat first | exact trivial | refine ⟨rfl, ?_⟩ | refine ⟨fun _ _ => ⟨rfl, trivial⟩, ?_⟩ | refine ⟨fun _ _ => trivial, ?_⟩ | refine ⟨by omega, ?_⟩ | refine ⟨fun _ _ => eqC_winS, ?_⟩ | refine ⟨fun _ _ => eqC_winM, ?_⟩ | refine ⟨fun _ _ => eqC_winB, ?_⟩ | refine ⟨fun _ _ => eqC_selfB, ?_⟩ | refine ⟨fun _ _ => eqC_mpB, ?_⟩)
    refine eqC_bts ?_
    (repeat first | exact trivial | refine ⟨rfl, ?_⟩ | refine ⟨fun _ _ => ⟨rfl, trivial⟩, ?_⟩ | refine ⟨fun _ _ => trivial, ?_⟩ | refine ⟨by omega, ?_⟩ | refine ⟨fun _ _ => eqC_winS, ?_⟩ | refine ⟨fun _ _ => eqC_winM, ?_⟩ | refine ⟨fun _ _ => eqC_winB, ?_⟩ | refine ⟨fun _ _ => eqC_selfB, ?_⟩ | refine ⟨fun _ _ => eqC_mpB, ?_⟩)
  have e0 : decide ((249 : Int) < (lab.length : Int)) = false := decide_eq_false (by omega)
  by_cases h1 : 255 < ctx.length
  · have e1 : decide ((255 : Int) < (ctx.length : Int)) = true := decide_eq_true (by omega)
    (repeat first | refine ⟨fun _ => ?_, fun h => absurd h (by rw [e0]; decide)⟩ | refine ⟨fun h => absurd h (by rw [e0]; decide), fun _ => ?_⟩ | refine ⟨fun _ => ?_, fun h => absurd h (by rw [e1]; decide)⟩ | refine ⟨fun h => absurd h (by rw [e1]; decide), fun _ => ?_⟩ | refine ⟨fun _ => ?_, fun h => Bool.noConfusion h⟩ | refine ⟨fun h => Bool.noConfusion h, fun _ => ?_⟩)
    refine ⟨.tup [.c (.slc none 0 0), .c (.int .i64 6)], [bts zc Nc oc ctx.length (L ctx), shaT dn 0 f g], ⟨[0, 1], ⟨rfl, rfl, rfl⟩, ?_⟩, fun _ => ⟨rfl, rfl⟩, fun _ h => absurd h (by omega), fun _ h => absurd h (by omega)⟩
    (repeat first | exact trivial | refine ⟨rfl, ?_⟩ | refine ⟨fun _ _ => ⟨rfl, trivial⟩, ?_⟩ | refine ⟨fun _ _ => trivial, ?_⟩ | refine ⟨by omega, ?_⟩ | refine ⟨fun _ _ => eqC_winS, ?_⟩ | refine ⟨fun _ _ => eqC_winM, ?_⟩ | refine ⟨fun _ _ => eqC_winB, ?_⟩ | refine ⟨fun _ _ => eqC_selfB, ?_⟩ | refine ⟨fun _ _ => eqC_mpB, ?_⟩)
    refine eqC_bts ?_
    (repeat first | exact trivial | refine ⟨rfl, ?_⟩ | refine ⟨fun _ _ => ⟨rfl, trivial⟩, ?_⟩ | refine ⟨fun _ _ => trivial, ?_⟩ | refine ⟨by omega, ?_⟩ | refine ⟨fun _ _ => eqC_winS, ?_⟩ | refine ⟨fun _ _ => eqC_winM, ?_⟩ | refine ⟨fun _ _ => eqC_winB, ?_⟩ | refine ⟨fun _ _ => eqC_selfB, ?_⟩ | refine ⟨fun _ _ => eqC_mpB, ?_⟩)
  have e1 : decide ((255 : Int) < (ctx.length : Int)) = false := decide_eq_false (by omega)
  (repeat first | refine ⟨fun _ => ?_, fun h => absurd h (by rw [e0]; decide)⟩ | refine ⟨fun h => absurd h (by rw [e0]; decide), fun _ => ?_⟩ | refine ⟨fun _ => ?_, fun h => absurd h (by rw [e1]; decide)⟩ | refine ⟨fun h => absurd h (by rw [e1]; decide), fun _ => ?_⟩ | refine ⟨fun _ => ?_, fun h => Bool.noConfusion h⟩ | refine ⟨fun h => Bool.noConfusion h, fun _ => ?_⟩)
  by_cases h2 : many < 0
  · have e2 : decide (many < 0) = true := decide_eq_true h2
    (repeat first | refine ⟨fun _ => ?_, fun h => absurd h (by rw [e2]; decide)⟩ | refine ⟨fun h => absurd h (by rw [e2]; decide), fun _ => ?_⟩ | refine ⟨fun _ => ?_, fun h => Bool.noConfusion h⟩ | refine ⟨fun h => Bool.noConfusion h, fun _ => ?_⟩)
    refine ⟨.tup [.c (.slc none 0 0), .c (.int .i64 2)], [bts zc Nc oc ctx.length (L ctx), shaT dn 0 f g], ⟨[0, 1], ⟨rfl, rfl, rfl⟩, ?_⟩, fun h => absurd h (by omega), fun _ _ _ => ⟨rfl, rfl⟩, fun _ _ h => absurd h (by omega)⟩
    (repeat first | exact trivial | refine ⟨rfl, ?_⟩ | refine ⟨fun _ _ => ⟨rfl, trivial⟩, ?_⟩ | refine ⟨fun _ _ => trivial, ?_⟩ | refine ⟨by omega, ?_⟩ | refine ⟨fun _ _ => eqC_winS, ?_⟩ | refine ⟨fun _ _ => eqC_winM, ?_⟩ | refine ⟨fun _ _ => eqC_winB, ?_⟩ | refine ⟨fun _ _ => eqC_selfB, ?_⟩ | refine ⟨fun _ _ => eqC_mpB, ?_⟩)
    refine eqC_bts ?_
    (repeat first | exact trivial | refine ⟨rfl, ?_⟩ | refine ⟨fun _ _ => ⟨rfl, trivial⟩, ?_⟩ | refine ⟨fun _ _ => trivial, ?_⟩ | refine ⟨by omega, ?_⟩ | refine ⟨fun _ _ => eqC_winS, ?_⟩ | refine ⟨fun _ _ => eqC_winM, ?_⟩ | refine ⟨fun _ _ => eqC_winB, ?_⟩ | refine ⟨fun _ _ => eqC_selfB, ?_⟩ | refine ⟨fun _ _ => eqC_mpB, ?_⟩)
  have e2 : decide (many < 0) = false := decide_eq_false h2
  by_cases h3 : 65535 < many
  · have e3 : decide (65535 < many) = true := decide_eq_true h3
    (repeat first | refine ⟨fun _ => ?_, fun h => absurd h (by rw [e2]; decide)⟩ | refine ⟨fun h => absurd h (by rw [e2]; decide), fun _ => ?_⟩ | refine ⟨fun _ => ?_, fun h => absurd h (by rw [e3]; decide)⟩ | refine ⟨fun h => absurd h (by rw [e3]; decide), fun _ => ?_⟩ | refine ⟨fun _ => ?_, fun h => Bool.noConfusion h⟩ | refine ⟨fun h => Bool.noConfusion h, fun _ => ?_⟩)
    refine ⟨.tup [.c (.slc none 0 0), .c (.int .i64 2)], [bts zc Nc oc ctx.length (L ctx), shaT dn 0 f g], ⟨[0, 1], ⟨rfl, rfl, rfl⟩, ?_⟩, fun h => absurd h (by omega), fun _ _ _ => ⟨rfl, rfl⟩, fun _ _ _ h => absurd h (by omega)⟩
    (repeat first | exact trivial | refine ⟨rfl, ?_⟩ | refine ⟨fun _ _ => ⟨rfl, trivial⟩, ?_⟩ | refine ⟨fun _ _ => trivial, ?_⟩ | refine ⟨by omega, ?_⟩ | refine ⟨fun _ _ => eqC_winS, ?_⟩ | refine ⟨fun _ _ => eqC_winM, ?_⟩ | refine ⟨fun _ _ => eqC_winB, ?_⟩ | refine ⟨fun _ _ => eqC_selfB, ?_⟩ | refine ⟨fun _ _ => eqC_mpB, ?_⟩)
    refine eqC_bts ?_
    (repeat first | exact trivial | refine ⟨rfl, ?_⟩ | refine ⟨fun _ _ => ⟨rfl, trivial⟩, ?_⟩ | refine ⟨fun _ _ => trivial, ?_⟩ | refine ⟨by omega, ?_⟩ | refine ⟨fun _ _ => eqC_winS, ?_⟩ | refine ⟨fun _ _ => eqC_winM, ?_⟩ | refine ⟨fun _ _ => eqC_winB, ?_⟩ | refine ⟨fun _ _ => eqC_selfB, ?_⟩ | refine ⟨fun _ _ => eqC_mpB, ?_⟩)
  have e3 : decide (65535 < many) = false := decide_eq_false h3
  (repeat first | refine ⟨fun _ => ?_, fun h => absurd h (by rw [e2]; decide)⟩ | refine ⟨fun h => absurd h (by rw [e2]; decide), fun _ => ?_⟩ | refine ⟨fun _ => ?_, fun h => absurd h (by rw [e3]; decide)⟩ | refine ⟨fun h => absurd h (by rw [e3]; decide), fun _ => ?_⟩ | refine ⟨fun _ => ?_, fun h => Bool.noConfusion h⟩ | refine ⟨fun h => Bool.noConfusion h, fun _ => ?_⟩)
  obtain ⟨n, rfl⟩ : ∃ n : Nat, many = n := ⟨many.toNat, by omega⟩
  (repeat first | refine And.intro (by omega) ?_ | refine And.intro (by decide) ?_ | (with_reducible refine frc_parts (by first | omega | decide) ?_) | (with_reducible refine frc_bytesL (by first | omega | decide) ?_) | refine And.intro rfl ?_)
  refine fun c1 hc1 => ?_
  have r1 := app_row (l := [BitVec.ofNat 8 (n / 256), BitVec.ofNat 8 n, BitVec.ofNat 8 (6 + lab.length)]) (m := tls) (n := 3) (k := 6) rfl rfl (f := nthC [.w8 (BitVec.ofInt 8 ((n : Int) / 2 ^ 8)), .w8 (BitVec.ofInt 8 (n : Int)), .w8 (BitVec.ofInt 8 (6 + (lab.length : Int)))]) (fun i hi => three (by rw [show (n : Int) / 2 ^ 8 = ((n / 256 : Nat) : Int) by omega]; exact BitVec.ofInt_natCast 8 _) (BitVec.ofInt_natCast 8 n) (by rw [show 6 + (lab.length : Int) = ((6 + lab.length : Nat) : Int) by omega]; exact BitVec.ofInt_natCast 8 _) i hi) (g := fun q => .w8 (List.getD [116, 108, 115, 49, 51, 32] q (0 : UInt8)).toBitVec) (fun i hi => tls_row i hi)
  refine And.intro ⟨by omega, by simp only [scale]; omega, by show (3 + 6 + lab.length) * 1 ≤ 140737488355328; omega⟩ fun c2 hc2 => ?_
  have r2 := app_row (m := BS lab) (n := 3 + 6) (k := lab.length) rfl (BS_len lab) r1 (g := fun q => .w8 (lab.getD q 0).toBitVec) (fun i hi => BS_row lab i hi)
  (repeat first | refine And.intro (by omega) ?_ | refine And.intro (by decide) ?_ | (with_reducible refine frc_parts (by first | omega | decide) ?_) | (with_reducible refine frc_bytesL (by first | omega | decide) ?_) | refine And.intro rfl ?_)
  refine And.intro ⟨by omega, by simp only [scale]; omega, by show (3 + 6 + lab.length + 1) * 1 ≤ 140737488355328; omega⟩ fun c3 hc3 => ?_
  have r3 := app_row (m := [BitVec.ofNat 8 ctx.length]) (n := 3 + 6 + lab.length) (k := 1) (by simp [tls]; try omega) rfl r2 (one_row (x := BitVec.ofInt 8 (ctx.length : Int)) (BitVec.ofInt_natCast 8 ctx.length))
  refine sn_bts (N := Nc) (b := L ctx) ?_ hNc (fun h => by rw [hzc h]; rfl) (fun gx hg => ?_)
  · rfl
  refine And.intro ⟨by omega, by simp only [scale]; omega, by show (3 + 6 + lab.length + 1 + ctx.length) * 1 ≤ 140737488355328; omega⟩ fun c4 hc4 => ?_
  have r4 := app_row (n := 3 + 6 + lab.length + 1) (by simp [tls]; try omega) rfl r3 hg
  have hTl := labT_len lab ctx n
  obtain ⟨T, hT0⟩ : ∃ T, labT lab ctx n = T := ⟨_, rfl⟩
  rw [hT0] at hTl
  have hT : [BitVec.ofNat 8 (n / 256), BitVec.ofNat 8 n, BitVec.ofNat 8 (6 + lab.length)] ++ tls ++ BS lab ++ [BitVec.ofNat 8 ctx.length] ++ ctx = T := hT0
  rw [hT] at r4
  have hc4' : T.length ≤ c4 := by rw [hTl]; exact hc4
  (repeat first | refine And.intro (by omega) ?_ | refine And.intro (by decide) ?_ | (with_reducible refine frc_parts (by first | omega | decide) ?_) | (with_reducible refine frc_bytesL (by first | omega | decide) ?_) | refine And.intro rfl ?_)
  refine call_same (fn_kexpand false c4 0 c4 s T (n : Int) dn f g hd hs (by omega) (by omega) (fun h => Bool.noConfusion h)) [8, 1] rfl ⟨rfl, rfl, rfl, fun j hj => ⟨rfl, trivial⟩, rfl, rfl, hTl.symm, rfl, rfl, trivial⟩ ?_ (fun _ _ => trivial) ?_
  · refine ⟨rfl, fun j hj => eqC_win0 (fun i hi => r4 i (by omega)) j, ?_⟩
    (repeat first | exact trivial | refine ⟨rfl, ?_⟩ | refine ⟨fun _ _ => ⟨rfl, trivial⟩, ?_⟩ | refine ⟨fun _ _ => trivial, ?_⟩ | refine ⟨by omega, ?_⟩ | refine ⟨fun _ _ => eqC_winS, ?_⟩ | refine ⟨fun _ _ => eqC_winM, ?_⟩ | refine ⟨fun _ _ => eqC_winB, ?_⟩ | refine ⟨fun _ _ => eqC_selfB, ?_⟩ | refine ⟨fun _ _ => eqC_mpB, ?_⟩)
  rintro x hs' ⟨hbad, hgood⟩
  by_cases h4 : 8160 < (n : Int)
  · obtain ⟨rfl, rfl⟩ := hbad (.inr h4)
    (repeat first | refine And.intro (by omega) ?_ | refine And.intro (by decide) ?_ | (with_reducible refine frc_parts (by first | omega | decide) ?_) | (with_reducible refine frc_bytesL (by first | omega | decide) ?_) | refine And.intro rfl ?_)
    refine ⟨.tup [.c (.slc none 0 0), .c (.int .i64 2)], [bts zc Nc oc ctx.length (L ctx), shaT dn 0 f g], ⟨[0, 1], ⟨rfl, rfl, rfl⟩, ?_⟩, fun h => absurd h (by omega), fun _ _ _ => ⟨rfl, rfl⟩, fun _ _ _ h => absurd h (by omega)⟩
    (repeat first | exact trivial | refine ⟨rfl, ?_⟩ | refine ⟨fun _ _ => ⟨rfl, trivial⟩, ?_⟩ | refine ⟨fun _ _ => trivial, ?_⟩ | refine ⟨by omega, ?_⟩ | refine ⟨fun _ _ => eqC_winS, ?_⟩ | refine ⟨fun _ _ => eqC_winM, ?_⟩ | refine ⟨fun _ _ => eqC_winB, ?_⟩ | refine ⟨fun _ _ => eqC_selfB, ?_⟩ | refine ⟨fun _ _ => eqC_mpB, ?_⟩)
    refine eqC_bts ?_
    (repeat first | exact trivial | refine ⟨rfl, ?_⟩ | refine ⟨fun _ _ => ⟨rfl, trivial⟩, ?_⟩ | refine ⟨fun _ _ => trivial, ?_⟩ | refine ⟨by omega, ?_⟩ | refine ⟨fun _ _ => eqC_winS, ?_⟩ | refine ⟨fun _ _ => eqC_winM, ?_⟩ | refine ⟨fun _ _ => eqC_winB, ?_⟩ | refine ⟨fun _ _ => eqC_selfB, ?_⟩ | refine ⟨fun _ _ => eqC_mpB, ?_⟩)
  obtain ⟨z, N, dn', f', g', hd', hz, hz2, hN, rfl, rfl⟩ := hgood (by omega) (by omega)
  (repeat first | refine And.intro (by omega) ?_ | refine And.intro (by decide) ?_ | (with_reducible refine frc_parts (by first | omega | decide) ?_) | (with_reducible refine frc_bytesL (by first | omega | decide) ?_) | refine And.intro rfl ?_)
  refine ⟨.tup [.c (.sn z 2 0 0 n n), .c (.int .i64 0)], [bts zc Nc oc ctx.length (L ctx), shaT dn' 0 f' g', bts z N 0 n (exF s T)], ⟨[0, 1, 9], ⟨rfl, rfl, rfl⟩, ?_⟩, fun h => absurd h (by omega), fun _ _ h => absurd h (by omega), fun _ _ _ _ => ⟨z, N, dn', f', g', hd', hz, hz2, hN, rfl, by subst hT0; rfl⟩⟩
  (repeat first | exact trivial | refine ⟨rfl, ?_⟩ | refine ⟨fun _ _ => ⟨rfl, trivial⟩, ?_⟩ | refine ⟨fun _ _ => trivial, ?_⟩ | refine ⟨by omega, ?_⟩ | refine ⟨fun _ _ => eqC_winS, ?_⟩ | refine ⟨fun _ _ => eqC_winM, ?_⟩ | refine ⟨fun _ _ => eqC_winB, ?_⟩ | refine ⟨fun _ _ => eqC_selfB, ?_⟩ | refine ⟨fun _ _ => eqC_mpB, ?_⟩)
  refine eqC_bts ?_
  (repeat first | exact trivial | refine ⟨rfl, ?_⟩ | refine ⟨fun _ _ => ⟨rfl, trivial⟩, ?_⟩ | refine ⟨fun _ _ => trivial, ?_⟩ | refine ⟨by omega, ?_⟩ | refine ⟨fun _ _ => eqC_winS, ?_⟩ | refine ⟨fun _ _ => eqC_winM, ?_⟩ | refine ⟨fun _ _ => eqC_winB, ?_⟩ | refine ⟨fun _ _ => eqC_selfB, ?_⟩ | refine ⟨fun _ _ => eqC_mpB, ?_⟩)
  exact eqC_btsM trivial
set_option maxRecDepth 20000 in
set_option maxHeartbeats 2000000 in
theorem fn_rlabel (zs zc : Bool) (Ns Nc os oc cs cc : Nat) (s ctx : Bs) (lab : List UInt8) (n : Nat) (hNs : os + s.length ≤ Ns) (hcs : s.length ≤ cs) (hzs : zs = true → s = []) (hNc : oc + ctx.length ≤ Nc) (hcc : ctx.length ≤ cc) (hzc : zc = true → ctx = [])
    (hsl : s.length < 1000000) (hcl : ctx.length < 100000) (hll : lab.length < 100000) (hn : n ≤ 100000) :
    FnR Try.prog tds 26 2 [bts zs Ns os s.length (L s), bts zc Nc oc ctx.length (L ctx)] [.c (.sn zs 0 0 os s.length cs), .c (.str lab), .c (.sn zc 1 0 oc ctx.length cc), .c (.int .i64 (n : Int))] (fun _ => True)
      (fun x hs => (n = 0 → x = .a (.c (.slc none 0 0)) ∧ hs = [bts zs Ns os s.length (L s), bts zc Nc oc ctx.length (L ctx)]) ∧ (0 < n → ∃ N c : Nat, n ≤ N ∧ n ≤ c ∧ x = .a (.c (.sl 2 0 0 n c)) ∧ hs = [bts zs Ns os s.length (L s), bts zc Nc oc ctx.length (L ctx), [.row N (winF 0 n (exF s (labT lab ctx n)))]])) := by
  refine fn_of_body tds_ok follows_ Try.func26 rfl (t := [.a (.c (.sn zs 0 0 os s.length cs)), .a (.c (.str (lab))), .a (.c (.sn zc 1 0 oc ctx.length cc)), .a (.c (.int .i64 (↑n))), .any, .any, .any, .any, .any, .any, .any, .any, .any, .any, .any, .any, .any, .any, .any, .any, .any, .any, .any, .any, .any, .any, .any, .any, .any, .any, .any, .any, .any, .any, .any, .any, .any, .any]) rfl (fun w r0 hr _ => ?_)
  obtain ⟨x0, x1, rfl⟩ := len2' hr
  (repeat first | refine And.intro (by omega) ?_ | refine And.intro (by decide) ?_ | (with_reducible refine frc_parts (by first | omega | decide) ?_) | (with_reducible refine frc_bytesL (by first | omega | decide) ?_) | refine And.intro rfl ?_)
  refine fun c1 hc1 => ?_
  have r1 := app_row (l := [BitVec.ofNat 8 (n / 256), BitVec.ofNat 8 n, BitVec.ofNat 8 (6 + lab.length)]) (m := tls) (n := 3) (k := 6) rfl rfl (f := nthC [.w8 (BitVec.ofInt 8 ((n : Int) / 256)), .w8 (BitVec.ofInt 8 ((n : Int) % 256)), .w8 (BitVec.ofInt 8 (6 + (lab.length : Int)))]) (fun i hi => three (by rw [show (n : Int) / 256 = ((n / 256 : Nat) : Int) by omega]; exact BitVec.ofInt_natCast 8 _) (by rw [show (n : Int) % 256 = ((n % 256 : Nat) : Int) by omega]; exact (BitVec.ofInt_natCast 8 _).trans (ofNat_mod8 n)) (by rw [show 6 + (lab.length : Int) = ((6 + lab.length : Nat) : Int) by omega]; exact BitVec.ofInt_natCast 8 _) i hi) (g := fun q => .w8 (List.getD [116, 108, 115, 49, 51, 32] q (0 : UInt8)).toBitVec) (fun i hi => tls_row i hi)
  refine And.intro ⟨by omega, by simp only [scale]; omega, by show (3 + 6 + lab.length) * 1 ≤ 140737488355328; omega⟩ fun c2 hc2 => ?_
  have r2 := app_row (m := BS lab) (n := 3 + 6) (k := lab.length) rfl (BS_len lab) r1 (g := fun q => .w8 (lab.getD q 0).toBitVec) (fun i hi => BS_row lab i hi)
  (repeat first | refine And.intro (by omega) ?_ | refine And.intro (by decide) ?_ | (with_reducible refine frc_parts (by first | omega | decide) ?_) | (with_reducible refine frc_bytesL (by first | omega | decide) ?_) | refine And.intro rfl ?_)
  refine And.intro ⟨by omega, by simp only [scale]; omega, by show (3 + 6 + lab.length + 1) * 1 ≤ 140737488355328; omega⟩ fun c3 hc3 => ?_
  have r3 := app_row (m := [BitVec.ofNat 8 ctx.length]) (n := 3 + 6 + lab.length) (k := 1) (by simp [tls]; try omega) rfl r2 (one_row (x := BitVec.ofInt 8 (ctx.length : Int)) (BitVec.ofInt_natCast 8 ctx.length))
  refine sn_bts (N := Nc) (b := L ctx) ?_ hNc (fun h => by rw [hzc h]; rfl) (fun gx hg => ?_)
  · rfl
  refine And.intro ⟨by omega, by simp only [scale]; omega, by show (3 + 6 + lab.length + 1 + ctx.length) * 1 ≤ 140737488355328; omega⟩ fun c4 hc4 => ?_
  have r4 := app_row (n := 3 + 6 + lab.length + 1) (by simp [tls]; try omega) rfl r3 hg
  have hTl := labT_len lab ctx n
  obtain ⟨T, hT0⟩ : ∃ T, labT lab ctx n = T := ⟨_, rfl⟩
  rw [hT0] at hTl
  rw [hT0]
  have hT : [BitVec.ofNat 8 (n / 256), BitVec.ofNat 8 n, BitVec.ofNat 8 (6 + lab.length)] ++ tls ++ BS lab ++ [BitVec.ofNat 8 ctx.length] ++ ctx = T := hT0
  rw [hT] at r4
  have hc4' : T.length ≤ c4 := by rw [hTl]; exact hc4
  (repeat first | refine And.intro (by omega) ?_ | refine And.intro (by decide) ?_ | (with_reducible refine frc_parts (by first | omega | decide) ?_) | (with_reducible refine frc_bytesL (by first | omega | decide) ?_) | refine And.intro rfl ?_)
  refine call_same (fn_rexpand zs false Ns c4 os 0 cs c4 s T n hNs hcs hzs (by omega) (by omega) (fun h => Bool.noConfusion h) hsl (by omega) hn) [0, 7] rfl ⟨rfl, rfl, rfl, rfl, rfl, rfl, hTl.symm, rfl, rfl, trivial⟩ ?_ (fun _ _ => trivial) ?_
  · refine eqC_bts ?_
    exact ⟨rfl, fun j hj => eqC_win0 (fun i hi => r4 i (by omega)) j, trivial⟩
  rintro x hs' ⟨h0, h1⟩
  by_cases h4 : n = 0
  · obtain ⟨rfl, rfl⟩ := h0 h4
    refine ⟨.a (.c (.slc none 0 0)), [bts zs Ns os s.length (L s), bts zc Nc oc ctx.length (L ctx)], ⟨[0, 1], ⟨rfl, rfl, rfl⟩, ?_⟩, fun _ => ⟨rfl, rfl⟩, fun h => absurd h (by omega)⟩
    (repeat first | exact trivial | refine ⟨rfl, ?_⟩ | refine ⟨fun _ _ => ⟨rfl, trivial⟩, ?_⟩ | refine ⟨fun _ _ => trivial, ?_⟩ | refine ⟨by omega, ?_⟩ | refine ⟨fun _ _ => eqC_winS, ?_⟩ | refine ⟨fun _ _ => eqC_winM, ?_⟩ | refine ⟨fun _ _ => eqC_winB, ?_⟩ | refine ⟨fun _ _ => eqC_selfB, ?_⟩ | refine ⟨fun _ _ => eqC_mpB, ?_⟩)
    refine eqC_bts (eqC_bts ?_)
    (repeat first | exact trivial | refine ⟨rfl, ?_⟩ | refine ⟨fun _ _ => ⟨rfl, trivial⟩, ?_⟩ | refine ⟨fun _ _ => trivial, ?_⟩ | refine ⟨by omega, ?_⟩ | refine ⟨fun _ _ => eqC_winS, ?_⟩ | refine ⟨fun _ _ => eqC_winM, ?_⟩ | refine ⟨fun _ _ => eqC_winB, ?_⟩ | refine ⟨fun _ _ => eqC_selfB, ?_⟩ | refine ⟨fun _ _ => eqC_mpB, ?_⟩)
  obtain ⟨N, c, hN, hc, rfl, rfl⟩ := h1 (by omega)
  refine ⟨.a (.c (.sl 2 0 0 n c)), [bts zs Ns os s.length (L s), bts zc Nc oc ctx.length (L ctx), [.row N (winF 0 n (exF s T))]], ⟨[0, 1, 8], ⟨rfl, rfl, rfl⟩, ?_⟩, fun h => absurd h h4, fun _ => ⟨N, c, hN, hc, rfl, rfl⟩⟩
  (repeat first | exact trivial | refine ⟨rfl, ?_⟩ | refine ⟨fun _ _ => ⟨rfl, trivial⟩, ?_⟩ | refine ⟨fun _ _ => trivial, ?_⟩ | refine ⟨by omega, ?_⟩ | refine ⟨fun _ _ => eqC_winS, ?_⟩ | refine ⟨fun _ _ => eqC_winM, ?_⟩ | refine ⟨fun _ _ => eqC_winB, ?_⟩ | refine ⟨fun _ _ => eqC_selfB, ?_⟩ | refine ⟨fun _ _ => eqC_mpB, ?_⟩)
  refine eqC_bts (eqC_bts ?_)
  (repeat first | exact trivial | refine ⟨rfl, ?_⟩ | refine ⟨fun _ _ => ⟨rfl, trivial⟩, ?_⟩ | refine ⟨fun _ _ => trivial, ?_⟩ | refine ⟨by omega, ?_⟩ | refine ⟨fun _ _ => eqC_winS, ?_⟩ | refine ⟨fun _ _ => eqC_winM, ?_⟩ | refine ⟨fun _ _ => eqC_winB, ?_⟩ | refine ⟨fun _ _ => eqC_selfB, ?_⟩ | refine ⟨fun _ _ => eqC_mpB, ?_⟩)
end Sx
end Go.Proofs.Ytndlhhhebijknaa
end

section
/-
  Secrets out of secrets: Extract, Derive; the law's fixed fact. No condition.
-/
namespace Go.Proofs.Ytndlhhhebijknaa
set_option linter.unusedVariables false
namespace Sx
open Sha

theorem sn_btsM {h : List (List Seg)} {g : Nat → Nat} {z : Bool} {j N o n : Nat} {b : Nat → BitVec 8} {k : (Nat → SC) → Prop} (hj : getH h j = mpL g (bts z N o n b)) (hN : o + n ≤ N) (hz : z = true → n = 0)
    (hk : ∀ g : Nat → SC, (∀ i, i < n → g i = .w8 (b i)) → k g) : ∃ f : Nat → SC, ((z = true → n = 0) ∧ (z = false → SnAt h j 0 o n 1 f)) ∧ k f := by
  refine ⟨fun i => .w8 (b i), ⟨hz, ?_⟩, hk _ fun _ _ => rfl⟩
  rintro rfl
  refine ⟨N, fun j => SC.mp g (winF o n b j), [], by rw [hj]; rfl, hN, fun q hq => ?_⟩
  show SC.w8 (b q) = SC.mp g (winF o n b (q + o))
  rw [Nat.add_comm, winF_at _ _ _ (show q < n from hq)]
  rfl
theorem eqC_winBM {q : List Nat} {g : Nat → Nat} {n m : Nat} {b : Nat → BitVec 8} {j : Nat} (h : m ≤ n) : eqC q (SC.mp g (bytesF n b j)) (winF 0 m b j) True :=
  eqC_win0 (f := fun j => SC.mp g (bytesF n b j)) (fun i hi => by rw [bytesF_lt (by omega)]; rfl) j
theorem fn_knew : Fn Try.prog tds 22 [] [] (fun _ => True) (fun x hs => x = .a (.c (.p 0 0 0)) ∧ hs = [shaT 0 0 (fun _ => 0#32) (fun _ => 0#32)]) := by
  refine fn_of_body tds_ok follows_ Try.func22 rfl (t := anys 2) rfl (fun w r0 hr _ => ?_)
  obtain rfl : r0 = [] := List.eq_nil_of_length_eq_zero hr
  refine ⟨.a (.c (.p 0 0 0)), [shaT 0 0 (fun _ => 0#32) (fun _ => 0#32)], ⟨[0], ⟨rfl, rfl, rfl⟩, ?_⟩, rfl, rfl⟩
  (repeat first | exact trivial | refine ⟨rfl, ?_⟩ | refine ⟨fun _ _ => ⟨rfl, trivial⟩, ?_⟩ | refine ⟨by omega, ?_⟩)
set_option maxRecDepth 20000 in
theorem fn_extract (zs zk : Bool) (Ns Nk os ok cs ck : Nat) (salt known : Bs) (dn : BitVec 32) (f g : Nat → BitVec 32) (hd : dn = 0#32 ∨ dn = 1#32 ∧ f = first ∧ g = steps)
    (hNs : os + salt.length ≤ Ns) (hcs : salt.length ≤ cs) (hzs : zs = true → salt = []) (hNk : ok + known.length ≤ Nk) (hck : known.length ≤ ck) (hzk : zk = true → known = []) :
    FnR Try.prog tds 27 2 [bts zs Ns os salt.length (L salt), bts zk Nk ok known.length (L known), shaT dn 0 f g] [.c (.p 2 0 0), .c (.sn zs 0 0 os salt.length cs), .c (.sn zk 1 0 ok known.length ck)] (fun _ => True)
      (fun x hs => x = .a (.agg [.row 32 fun i => .w8 (L (markL salt known) i)]) ∧ hs = [bts zs Ns os salt.length (L salt), bts zk Nk ok known.length (L known), shaT 1 0 first steps]) := by
  refine fn_of_body tds_ok follows_ Try.func27 rfl (t := [.a (.c (.p 2 0 0)), .a (.c (.sn zs 0 0 os salt.length cs)), .a (.c (.sn zk 1 0 ok known.length ck)), .any, .any, .any, .any, .any, .any, .any, .any, .any, .any, .any, .any, .any, .any]) rfl (fun w r0 hr _ => ?_)
  obtain ⟨x0, x1, x2, rfl⟩ := len3' hr
  refine ⟨fun h => Bool.noConfusion h, fun _ => ?_⟩
  (repeat first | refine And.intro (by omega) ?_ | refine And.intro (by decide) ?_ | (with_reducible refine frc_parts (by first | omega | decide) ?_) | (with_reducible refine frc_bytesL (by first | omega | decide) ?_) | refine And.intro rfl ?_)
  refine call_same (fn_smark zs zk true true Ns Nk 0 0 os ok 0 0 cs ck 0 0 salt known [] [] 1 1 1 dn f g hd hNs hcs hzs hNk hck hzk (by decide) (by decide) (fun _ => rfl) (by decide) (by decide) (fun _ => rfl) (by decide) (by decide)) [0, 1, 4, 4, 4, 2] rfl (by (repeat first | exact trivial | refine ⟨rfl, ?_⟩ | refine ⟨fun _ _ => ⟨rfl, trivial⟩, ?_⟩ | refine ⟨fun _ _ => trivial, ?_⟩ | refine ⟨by omega, ?_⟩ | refine ⟨fun _ _ => eqC_winS, ?_⟩ | refine ⟨fun _ _ => eqC_winM, ?_⟩ | refine ⟨fun _ _ => eqC_winB, ?_⟩ | refine ⟨fun _ _ => eqC_selfB, ?_⟩ | refine ⟨fun _ _ => eqC_mpB, ?_⟩)) ?_ (fun _ _ => trivial) ?_
  · refine eqC_bts (eqC_bts ?_)
    (repeat first | exact trivial | refine ⟨rfl, ?_⟩ | refine ⟨fun _ _ => ⟨rfl, trivial⟩, ?_⟩ | refine ⟨fun _ _ => trivial, ?_⟩ | refine ⟨by omega, ?_⟩ | refine ⟨fun _ _ => eqC_winS, ?_⟩ | refine ⟨fun _ _ => eqC_winM, ?_⟩ | refine ⟨fun _ _ => eqC_winB, ?_⟩ | refine ⟨fun _ _ => eqC_selfB, ?_⟩ | refine ⟨fun _ _ => eqC_mpB, ?_⟩)
    refine ⟨fun j hj => eqC_parts (fun i hi => ?_) j, ?_⟩
    · obtain rfl : i = 0 := by omega
      exact ⟨rfl, rfl, rfl, rfl, trivial⟩
    · (repeat first | exact trivial | refine ⟨rfl, ?_⟩ | refine ⟨fun _ _ => ⟨rfl, trivial⟩, ?_⟩ | refine ⟨fun _ _ => trivial, ?_⟩ | refine ⟨by omega, ?_⟩ | refine ⟨fun _ _ => eqC_winS, ?_⟩ | refine ⟨fun _ _ => eqC_winM, ?_⟩ | refine ⟨fun _ _ => eqC_winB, ?_⟩ | refine ⟨fun _ _ => eqC_selfB, ?_⟩ | refine ⟨fun _ _ => eqC_mpB, ?_⟩)
  rintro x hs ⟨rfl, rfl⟩
  rw [cat1]
  (repeat first | refine And.intro (by omega) ?_ | refine And.intro (by decide) ?_ | (with_reducible refine frc_parts (by first | omega | decide) ?_) | (with_reducible refine frc_bytesL (by first | omega | decide) ?_) | refine And.intro rfl ?_)
  refine ⟨.a (.agg [.row 32 fun i => .w8 (L (markL salt known) i)]), [bts zs Ns os salt.length (L salt), bts zk Nk ok known.length (L known), shaT 1 0 first steps], ⟨[0, 1, 2], ⟨rfl, rfl, rfl⟩, ?_⟩, rfl, rfl⟩
  (repeat first | exact trivial | refine ⟨rfl, ?_⟩ | refine ⟨fun _ _ => ⟨rfl, trivial⟩, ?_⟩ | refine ⟨fun _ _ => trivial, ?_⟩ | refine ⟨by omega, ?_⟩ | refine ⟨fun _ _ => eqC_winS, ?_⟩ | refine ⟨fun _ _ => eqC_winM, ?_⟩ | refine ⟨fun _ _ => eqC_winB, ?_⟩ | refine ⟨fun _ _ => eqC_selfB, ?_⟩ | refine ⟨fun _ _ => eqC_mpB, ?_⟩)
  refine eqC_bts (eqC_bts ?_)
  (repeat first | exact trivial | refine ⟨rfl, ?_⟩ | refine ⟨fun _ _ => ⟨rfl, trivial⟩, ?_⟩ | refine ⟨fun _ _ => trivial, ?_⟩ | refine ⟨by omega, ?_⟩ | refine ⟨fun _ _ => eqC_winS, ?_⟩ | refine ⟨fun _ _ => eqC_winM, ?_⟩ | refine ⟨fun _ _ => eqC_winB, ?_⟩ | refine ⟨fun _ _ => eqC_selfB, ?_⟩ | refine ⟨fun _ _ => eqC_mpB, ?_⟩)
def saltA : Bs := [0#8, 1#8, 2#8, 3#8, 4#8, 5#8, 6#8, 7#8, 8#8, 9#8, 10#8, 11#8, 12#8]
def knownA : Bs := [11#8, 11#8, 11#8, 11#8, 11#8, 11#8, 11#8, 11#8, 11#8, 11#8, 11#8, 11#8, 11#8, 11#8, 11#8, 11#8, 11#8, 11#8, 11#8, 11#8, 11#8, 11#8]
theorem markA : L (markL saltA knownA) 0 = 7#8 ∧ L (markL saltA knownA) 1 = 119#8 ∧ L (markL saltA knownA) 31 = 229#8 :=
  of_decide_eq_true (mark_by (p := fun l => decide (L l 0 = 7#8 ∧ L l 1 = 119#8 ∧ L l 31 = 229#8)) (by decide +kernel))
set_option maxRecDepth 20000 in
theorem fn_awake4 : Fn Try.prog tds 21 [] [] (fun _ => True) (fun x hs => x = .a (.c (.bool true)) ∧ hs = []) := by
  refine fn_of_body tds_ok follows_ Try.func21 rfl (t := anys 21) rfl (fun w r0 hr _ => ?_)
  obtain rfl : r0 = [] := List.eq_nil_of_length_eq_zero hr
  refine ⟨by kernel_rfl, call_same fn_knew [] rfl trivial trivial (fun _ _ => trivial) ?_⟩
  rintro x hs ⟨rfl, rfl⟩
  (repeat first | refine ⟨by omega, ?_⟩ | refine ⟨by decide, ?_⟩ | refine ⟨idx8 _, ?_⟩ | refine ⟨lt8 (Nat.le_refl _) _, ?_⟩ | refine ⟨rfl, ?_⟩)
  refine call_same (fn_extract false false 13 22 0 0 13 22 saltA knownA 0 (fun _ => 0) (fun _ => 0) (.inl rfl) (by decide) (by decide) (by decide) (by decide) (by decide) (by decide)) [1, 2, 0] rfl (by (repeat first | exact trivial | refine ⟨rfl, ?_⟩ | refine ⟨fun _ _ => ⟨rfl, trivial⟩, ?_⟩ | refine ⟨fun _ _ => trivial, ?_⟩ | refine ⟨by omega, ?_⟩ | refine ⟨fun _ _ => eqC_winS, ?_⟩ | refine ⟨fun _ _ => eqC_winM, ?_⟩ | refine ⟨fun _ _ => eqC_winB, ?_⟩ | refine ⟨fun _ _ => eqC_selfB, ?_⟩ | refine ⟨fun _ _ => eqC_mpB, ?_⟩)) ?_ (fun _ _ => trivial) ?_
  · (repeat first | exact trivial | refine ⟨rfl, ?_⟩ | refine ⟨fun _ _ => ⟨rfl, trivial⟩, ?_⟩ | refine ⟨fun _ _ => trivial, ?_⟩ | refine ⟨by omega, ?_⟩ | refine ⟨fun _ _ => eqC_winS, ?_⟩ | refine ⟨fun _ _ => eqC_winM, ?_⟩ | refine ⟨fun _ _ => eqC_winB, ?_⟩ | refine ⟨fun _ _ => eqC_selfB, ?_⟩ | refine ⟨fun _ _ => eqC_mpB, ?_⟩)
    refine ⟨fun j hj => eqC_lit saltA hj, ?_⟩
    (repeat first | exact trivial | refine ⟨rfl, ?_⟩ | refine ⟨fun _ _ => ⟨rfl, trivial⟩, ?_⟩ | refine ⟨fun _ _ => trivial, ?_⟩ | refine ⟨by omega, ?_⟩ | refine ⟨fun _ _ => eqC_winS, ?_⟩ | refine ⟨fun _ _ => eqC_winM, ?_⟩ | refine ⟨fun _ _ => eqC_winB, ?_⟩ | refine ⟨fun _ _ => eqC_selfB, ?_⟩ | refine ⟨fun _ _ => eqC_mpB, ?_⟩)
    refine ⟨fun j hj => eqC_lit knownA hj, ?_⟩
    (repeat first | exact trivial | refine ⟨rfl, ?_⟩ | refine ⟨fun _ _ => ⟨rfl, trivial⟩, ?_⟩ | refine ⟨fun _ _ => trivial, ?_⟩ | refine ⟨by omega, ?_⟩ | refine ⟨fun _ _ => eqC_winS, ?_⟩ | refine ⟨fun _ _ => eqC_winM, ?_⟩ | refine ⟨fun _ _ => eqC_winB, ?_⟩ | refine ⟨fun _ _ => eqC_selfB, ?_⟩ | refine ⟨fun _ _ => eqC_mpB, ?_⟩)
  rintro x hs ⟨rfl, rfl⟩
  obtain ⟨h0, h1, h2⟩ := markA
  obtain ⟨S, hS⟩ : ∃ S, markL saltA knownA = S := ⟨_, rfl⟩
  rw [hS] at h0 h1 h2
  rw [hS]
  (repeat first | refine And.intro (by omega) ?_ | refine And.intro (by decide) ?_ | refine And.intro rfl ?_ | refine And.intro (fun _ => ?_) (fun h => Bool.noConfusion h) | refine And.intro (fun _ => ?_) (fun h => absurd h0 (of_decide_eq_false h)) | refine And.intro (fun _ => ?_) (fun h => absurd h1 (of_decide_eq_false h)) | refine And.intro (fun _ => ?_) (fun h => absurd h2 (of_decide_eq_false h)))
  exact ⟨.a (.c (.bool true)), [], ⟨[], ⟨rfl, rfl, rfl⟩, decide_eq_true h2, trivial⟩, rfl, rfl⟩
set_option maxRecDepth 20000 in
theorem fn_kderive (zd : Bool) (Nd od cd : Nat) (s said : Bs) (lab : List UInt8) (dn : BitVec 32) (f g : Nat → BitVec 32) (hd : dn = 0#32 ∨ dn = 1#32 ∧ f = first ∧ g = steps)
    (hs : s.length = 32) (hl : lab.length ≤ 249) (hNd : od + said.length ≤ Nd) (hcd : said.length ≤ cd) (hzd : zd = true → said = []) :
    FnR Try.prog tds 28 1 [bts zd Nd od said.length (L said), shaT dn 0 f g] [.c (.p 1 0 0), .agg [.row 32 fun i => .w8 (L s i)], .c (.str lab), .c (.sn zd 0 0 od said.length cd)] (fun _ => True)
      (fun x hs => x = .a (.agg [.row 32 fun i => .w8 (exF s (labT lab (sumL said) 32) i)]) ∧ ∃ (dn' : BitVec 32) (f' g' : Nat → BitVec 32), (dn' = 0#32 ∨ dn' = 1#32 ∧ f' = first ∧ g' = steps) ∧ hs = [bts zd Nd od said.length (L said), shaT dn' 0 f' g']) := by
  refine fn_of_body tds_ok follows_ Try.func28 rfl (t := [.a (.c (.p 1 0 0)), .a (.agg [.row 32 fun i => .w8 (L s i)]), .a (.c (.str (lab))), .a (.c (.sn zd 0 0 od said.length cd)), .any, .any, .any, .any, .any, .any, .any, .any, .any, .any, .any, .any, .any, .any, .any, .any, .any, .any, .any, .any, .any, .any, .any, .any, .any, .any, .any, .any, .any, .any]) rfl (fun w r0 hr _ => ?_)
  obtain ⟨x0, x1, rfl⟩ := len2' hr
  (repeat first | refine And.intro (by omega) ?_ | refine And.intro (by decide) ?_ | (with_reducible refine frc_parts (by first | omega | decide) ?_) | (with_reducible refine frc_bytesL (by first | omega | decide) ?_) | refine And.intro rfl ?_)
  refine ⟨fun h => Bool.noConfusion h, fun _ => ?_⟩
  (repeat first | refine And.intro (by omega) ?_ | refine And.intro (by decide) ?_ | (with_reducible refine frc_parts (by first | omega | decide) ?_) | (with_reducible refine frc_bytesL (by first | omega | decide) ?_) | refine And.intro rfl ?_)
  refine call_same (fn_ssum3 zd true true Nd 0 0 od 0 0 cd 0 0 said [] [] 1 1 1 dn f g hd hNd (by decide) (by decide) hcd (by decide) (by decide) hzd (fun _ => rfl) (fun _ => rfl) (by decide) (by decide)) [0, 5, 5, 5, 1] rfl (by (repeat first | exact trivial | refine ⟨rfl, ?_⟩ | refine ⟨fun _ _ => ⟨rfl, trivial⟩, ?_⟩ | refine ⟨fun _ _ => trivial, ?_⟩ | refine ⟨by omega, ?_⟩ | refine ⟨fun _ _ => eqC_winS, ?_⟩ | refine ⟨fun _ _ => eqC_winM, ?_⟩ | refine ⟨fun _ _ => eqC_winB, ?_⟩ | refine ⟨fun _ _ => eqC_selfB, ?_⟩ | refine ⟨fun _ _ => eqC_mpB, ?_⟩)) ?_ (fun _ _ => trivial) ?_
  · refine eqC_bts ?_
    (repeat first | exact trivial | refine ⟨rfl, ?_⟩ | refine ⟨fun _ _ => ⟨rfl, trivial⟩, ?_⟩ | refine ⟨fun _ _ => trivial, ?_⟩ | refine ⟨by omega, ?_⟩ | refine ⟨fun _ _ => eqC_winS, ?_⟩ | refine ⟨fun _ _ => eqC_winM, ?_⟩ | refine ⟨fun _ _ => eqC_winB, ?_⟩ | refine ⟨fun _ _ => eqC_selfB, ?_⟩ | refine ⟨fun _ _ => eqC_mpB, ?_⟩)
    refine ⟨fun j hj => eqC_parts (fun i hi => ?_) j, ?_⟩
    · obtain rfl : i = 0 := by omega
      exact ⟨rfl, rfl, rfl, rfl, trivial⟩
    · (repeat first | exact trivial | refine ⟨rfl, ?_⟩ | refine ⟨fun _ _ => ⟨rfl, trivial⟩, ?_⟩ | refine ⟨fun _ _ => trivial, ?_⟩ | refine ⟨by omega, ?_⟩ | refine ⟨fun _ _ => eqC_winS, ?_⟩ | refine ⟨fun _ _ => eqC_winM, ?_⟩ | refine ⟨fun _ _ => eqC_winB, ?_⟩ | refine ⟨fun _ _ => eqC_selfB, ?_⟩ | refine ⟨fun _ _ => eqC_mpB, ?_⟩)
  rintro x hs' ⟨rfl, rfl⟩
  rw [cat1]
  obtain ⟨S, hS⟩ : ∃ S, sumL said = S := ⟨_, rfl⟩
  have hSl : S.length = 32 := by rw [← hS, sumL_len]
  rw [hS]
  (repeat first | refine And.intro (by omega) ?_ | refine And.intro (by decide) ?_ | (with_reducible refine frc_parts (by first | omega | decide) ?_) | (with_reducible refine frc_bytesL (by first | omega | decide) ?_) | refine And.intro rfl ?_)
  refine ⟨some [2], [], [(0, true), (1, true), (2, true), (3, true), (4, false), (5, true), (6, true), (7, true), (8, true), (9, true)], [], by kernel_rfl, ?_⟩
  (repeat first | refine And.intro (by omega) ?_ | refine And.intro (by decide) ?_ | (with_reducible refine frc_parts (by first | omega | decide) ?_) | (with_reducible refine frc_bytesL (by first | omega | decide) ?_) | refine And.intro rfl ?_)
  refine call_same (fn_klabel false 32 0 32 s S lab 32 1 first steps (.inr ⟨rfl, rfl, rfl⟩) hs (by omega) (by omega) (fun h => Bool.noConfusion h)) [6, 1] rfl ⟨rfl, rfl, rfl, fun j hj => ⟨rfl, trivial⟩, rfl, rfl, rfl, hSl.symm, rfl, rfl, trivial⟩ ?_ (fun _ _ => trivial) ?_
  · refine ⟨rfl, fun j hj => eqC_win0 (fun i hi => rfl) j, ?_⟩
    (repeat first | exact trivial | refine ⟨rfl, ?_⟩ | refine ⟨fun _ _ => ⟨rfl, trivial⟩, ?_⟩ | refine ⟨fun _ _ => trivial, ?_⟩ | refine ⟨by omega, ?_⟩ | refine ⟨fun _ _ => eqC_winS, ?_⟩ | refine ⟨fun _ _ => eqC_winM, ?_⟩ | refine ⟨fun _ _ => eqC_winB, ?_⟩ | refine ⟨fun _ _ => eqC_selfB, ?_⟩ | refine ⟨fun _ _ => eqC_mpB, ?_⟩)
  rintro x hs' ⟨_, _, hgood⟩
  obtain ⟨z, N, dn', f', g', hd', hz, hz2, hN, rfl, rfl⟩ := hgood hl (by omega) (by decide) (by decide)
  obtain rfl := hz2 (by decide)
  have hN : 32 ≤ N := hN
  (repeat first | refine And.intro (by omega) ?_ | refine And.intro (by decide) ?_ | (with_reducible refine frc_parts (by first | omega | decide) ?_) | (with_reducible refine frc_bytesL (by first | omega | decide) ?_) | refine And.intro rfl ?_)
  refine sn_btsM (g := bk 7 [6, 1]) (N := N) (b := exF s (labT lab S 32)) ?_ hN (fun h => Bool.noConfusion h) (fun gx hg => ?_)
  · rfl
  (repeat first | refine And.intro (by omega) ?_ | refine And.intro (by decide) ?_ | (with_reducible refine frc_parts (by first | omega | decide) ?_) | (with_reducible refine frc_bytesL (by first | omega | decide) ?_) | refine And.intro rfl ?_)
  refine ⟨.a (.agg [.row 32 fun i => .w8 (exF s (labT lab S 32) i)]), [bts zd Nd od said.length (L said), shaT dn' 0 f' g'], ⟨[0, 1], ⟨rfl, rfl, rfl⟩, ?_⟩, rfl, dn', f', g', hd', rfl⟩
  (repeat first | exact trivial | refine ⟨rfl, ?_⟩ | refine ⟨fun _ _ => ⟨rfl, trivial⟩, ?_⟩ | refine ⟨fun _ _ => trivial, ?_⟩ | refine ⟨by omega, ?_⟩ | refine ⟨fun _ _ => eqC_winS, ?_⟩ | refine ⟨fun _ _ => eqC_winM, ?_⟩ | refine ⟨fun _ _ => eqC_winB, ?_⟩ | refine ⟨fun _ _ => eqC_selfB, ?_⟩ | refine ⟨fun _ _ => eqC_mpB, ?_⟩)
  refine ⟨fun j hj => eqC_w8 ?_, ?_⟩
  · show updN (fun _ => SC.w8 0) 0 32 gx j = _
    unfold updN
    rw [if_pos ⟨by omega, by omega⟩, Nat.sub_zero]
    exact hg j hj
  · (repeat first | exact trivial | refine ⟨rfl, ?_⟩ | refine ⟨fun _ _ => ⟨rfl, trivial⟩, ?_⟩ | refine ⟨fun _ _ => trivial, ?_⟩ | refine ⟨by omega, ?_⟩ | refine ⟨fun _ _ => eqC_winS, ?_⟩ | refine ⟨fun _ _ => eqC_winM, ?_⟩ | refine ⟨fun _ _ => eqC_winB, ?_⟩ | refine ⟨fun _ _ => eqC_selfB, ?_⟩ | refine ⟨fun _ _ => eqC_mpB, ?_⟩)
    refine eqC_bts ?_
    (repeat first | exact trivial | refine ⟨rfl, ?_⟩ | refine ⟨fun _ _ => ⟨rfl, trivial⟩, ?_⟩ | refine ⟨fun _ _ => trivial, ?_⟩ | refine ⟨by omega, ?_⟩ | refine ⟨fun _ _ => eqC_winS, ?_⟩ | refine ⟨fun _ _ => eqC_winM, ?_⟩ | refine ⟨fun _ _ => eqC_winB, ?_⟩ | refine ⟨fun _ _ => eqC_selfB, ?_⟩ | refine ⟨fun _ _ => eqC_mpB, ?_⟩)
set_option maxRecDepth 20000 in
theorem fn_rderive (zs zd : Bool) (Ns Nd os od cs cd : Nat) (s said : Bs) (lab : List UInt8) (hNs : os + s.length ≤ Ns) (hcs : s.length ≤ cs) (hzs : zs = true → s = []) (hNd : od + said.length ≤ Nd) (hcd : said.length ≤ cd) (hzd : zd = true → said = [])
    (hsl : s.length < 1000000) (hdl : said.length < 1000000) (hll : lab.length < 100000) :
    FnR Try.prog tds 30 2 [bts zs Ns os s.length (L s), bts zd Nd od said.length (L said)] [.c (.sn zs 0 0 os s.length cs), .c (.str lab), .c (.sn zd 1 0 od said.length cd)] (fun _ => True)
      (fun x hs => ∃ N c : Nat, 32 ≤ N ∧ 32 ≤ c ∧ x = .a (.c (.sl 2 0 0 32 c)) ∧ hs = [bts zs Ns os s.length (L s), bts zd Nd od said.length (L said), [.row N (winF 0 32 (exF s (labT lab (sumL said) 32)))]]) := by
  refine fn_of_body tds_ok follows_ Try.func30 rfl (t := .a (.c (.sn zs 0 0 os s.length cs)) :: .a (.c (.str lab)) :: .a (.c (.sn zd 1 0 od said.length cd)) :: anys (Try.f30.ntmps - 3)) rfl (fun w r0 hr _ => ?_)
  obtain ⟨x0, x1, rfl⟩ := len2' hr
  refine ⟨by kernel_rfl, call_same (fn_rsum zd Nd od cd said hNd hcd hzd (by omega)) [1] rfl (by (repeat first | exact trivial | refine ⟨rfl, ?_⟩ | refine ⟨fun _ _ => ⟨rfl, trivial⟩, ?_⟩ | refine ⟨fun _ _ => trivial, ?_⟩ | refine ⟨by omega, ?_⟩ | refine ⟨fun _ _ => eqC_winS, ?_⟩ | refine ⟨fun _ _ => eqC_winM, ?_⟩ | refine ⟨fun _ _ => eqC_winB, ?_⟩ | refine ⟨fun _ _ => eqC_selfB, ?_⟩ | refine ⟨fun _ _ => eqC_mpB, ?_⟩)) ?_ (fun _ _ => trivial) ?_⟩
  · exact eqC_bts trivial
  rintro x hs' ⟨c1, rfl, rfl, hc1⟩
  obtain ⟨S, hS⟩ : ∃ S, sumL said = S := ⟨_, rfl⟩
  have hSl : S.length = 32 := by rw [← hS, sumL_len]
  rw [hS]
  refine ⟨by kernel_rfl, call_same (fn_rlabel zs false Ns c1 os 0 cs c1 s S lab 32 hNs hcs hzs (by omega) (by omega) (fun h => Bool.noConfusion h) hsl (by omega) hll (by decide)) [0, 2] rfl ⟨rfl, rfl, rfl, rfl, rfl, rfl, rfl, hSl.symm, rfl, rfl, trivial⟩ ?_ (fun _ _ => trivial) ?_⟩
  · refine eqC_bts ?_
    exact ⟨rfl, fun j hj => eqC_winBM (by omega), trivial⟩
  rintro x hs' ⟨_, h1⟩
  obtain ⟨N, c, hN, hc, rfl, rfl⟩ := h1 (by decide)
  refine ⟨.a (.c (.sl 2 0 0 32 c)), [bts zs Ns os s.length (L s), bts zd Nd od said.length (L said), [.row N (winF 0 32 (exF s (labT lab S 32)))]], ⟨[0, 1, 3], ⟨rfl, rfl, rfl⟩, ?_⟩, N, c, hN, hc, rfl, rfl⟩
  (repeat first | exact trivial | refine ⟨rfl, ?_⟩ | refine ⟨fun _ _ => ⟨rfl, trivial⟩, ?_⟩ | refine ⟨fun _ _ => trivial, ?_⟩ | refine ⟨by omega, ?_⟩ | refine ⟨fun _ _ => eqC_winS, ?_⟩ | refine ⟨fun _ _ => eqC_winM, ?_⟩ | refine ⟨fun _ _ => eqC_winB, ?_⟩ | refine ⟨fun _ _ => eqC_selfB, ?_⟩ | refine ⟨fun _ _ => eqC_mpB, ?_⟩)
  refine eqC_bts (eqC_bts ?_)
  (repeat first | exact trivial | refine ⟨rfl, ?_⟩ | refine ⟨fun _ _ => ⟨rfl, trivial⟩, ?_⟩ | refine ⟨fun _ _ => trivial, ?_⟩ | refine ⟨by omega, ?_⟩ | refine ⟨fun _ _ => eqC_winS, ?_⟩ | refine ⟨fun _ _ => eqC_winM, ?_⟩ | refine ⟨fun _ _ => eqC_winB, ?_⟩ | refine ⟨fun _ _ => eqC_selfB, ?_⟩ | refine ⟨fun _ _ => eqC_mpB, ?_⟩)
end Sx
end Go.Proofs.Ytndlhhhebijknaa
end

section
/-
  The program's sealer: counted blocks, bytes turned, what is gone over, marks. No condition.
-/
namespace Go.Proofs.Ytndlhhhebijknaa
set_option linter.unusedVariables false
namespace Gcm
open Sha
/-- A nonce and a counter. -/
def ctrB (nn : Nat → BitVec 8) (c : BitVec 32) (i : Nat) : BitVec 8 := if i < 12 then nn i else (c >>> (8 * (15 - i))).setWidth 8
def cryB (E : (Nat → BitVec 8) → Nat → BitVec 8) (nn : Nat → BitVec 8) (l : Bs) (j : Nat) : BitVec 8 := L l j ^^^ E (ctrB nn (BitVec.ofNat 32 (2 + j / 16))) (j % 16)
def cryL (E : (Nat → BitVec 8) → Nat → BitVec 8) (nn : Nat → BitVec 8) (l : Bs) : Bs := tab l.length (cryB E nn l)
@[simp] theorem cryL_len (E : (Nat → BitVec 8) → Nat → BitVec 8) (nn : Nat → BitVec 8) (l : Bs) : (cryL E nn l).length = l.length := tab_len _ _
def withB (E : (Nat → BitVec 8) → Nat → BitVec 8) (nn : Nat → BitVec 8) (i : Nat) : Nat → BitVec 8 := if i = 0 then fun _ => 0#8 else E (ctrB nn (BitVec.ofNat 32 (1 + (i + 15) / 16)))
/-- Sixteen bytes, filled up. -/
def partB (l : Bs) (k i : Nat) : BitVec 8 := if 16 * k + i < l.length then L l (16 * k + i) else 0#8
def hS (H e : E) (l : Bs) : Nat → E
  | 0 => e
  | k + 1 => mul (hS H e l k ^^^ toE (partB l k)) H
def hL (H e : E) (l : Bs) : E := hS H e l ((l.length + 15) / 16)
def lenE (a b : Nat) : E := mk (BitVec.ofNat 64 a * 8#64) (BitVec.ofNat 64 b * 8#64)
def tagE (H : E) (a h : Bs) : E := mul (hL H (hL H 0#128 a) h ^^^ lenE a.length h.length) H
def tagB (E : (Nat → BitVec 8) → Nat → BitVec 8) (H : Gcm.E) (nn : Nat → BitVec 8) (a h : Bs) (i : Nat) : BitVec 8 := byE (tagE H a h) i ^^^ E (ctrB nn 1#32) i
def sealL (E : (Nat → BitVec 8) → Nat → BitVec 8) (H : Gcm.E) (nn : Nat → BitVec 8) (a p : Bs) : Bs := cryL E nn p ++ tab 16 (tagB E H nn a (cryL E nn p))
theorem sealL_len (E : (Nat → BitVec 8) → Nat → BitVec 8) (H : Gcm.E) (nn : Nat → BitVec 8) (a p : Bs) : (sealL E H nn a p).length = p.length + 16 := by simp [sealL]
end Gcm
namespace Sx
open Aes Gcm Sha

abbrev nonA (nn : Nat → BitVec 8) : SA := .agg [.row 12 fun i => .w8 (nn i)]
abbrev sealC (i : Nat) (H : E) : List Seg := [.one (.p i 0 0), .one (.w64 (hi H)), .one (.w64 (lo H))]
theorem sh3 : ∀ k : Nat, k < 4 → (8#64 * BitVec.ofInt 64 (3 - (k : Int))).toNat = 8 * (15 - (12 + k)) := by decide
set_option maxRecDepth 20000 in
theorem fn_counted (cnt : Int) (key K : Nat → BitVec 8) (E : (Nat → BitVec 8) → Nat → BitVec 8) (hK : pKeys key = K) (hE : pTurn key = E) (H : Gcm.E) (nn : Nat → BitVec 8) (c : BitVec 32) (hn : 0 ≤ cnt ∧ cnt ≤ 1000000000) :
    Fn Try.prog tds 72 [tabs 1 0 boxes cnt, keyC K, sealC 1 H] [.c (.p 2 0 0), nonA nn, .c (.w32 c)] (fun _ => True) (fun x hs => x = .a (blk (E (ctrB nn c))) ∧ hs = [tabs 1 0 boxes (cnt + 1), keyC K, sealC 1 H]) := by
  refine fn_of_body tds_ok follows_ Try.func72 rfl (t := .a (.c (.p 2 0 0)) :: .a (nonA nn) :: .a (.c (.w32 c)) :: anys 29) rfl (fun w r0 hr _ => ?_)
  obtain ⟨x0, x1, x2, rfl⟩ := len3' hr
  refine ⟨rfl, none, [], [(0, true), (1, true)], [2], by kernel_rfl, ?_⟩
  (repeat first | refine ⟨by omega, ?_⟩ | refine ⟨by decide, ?_⟩ | refine ⟨idx8 _, ?_⟩ | refine ⟨lt8 (Nat.le_refl _) _, ?_⟩)
  refine .inl ⟨Nat, fun k => ⟨[.a (.c (.p 2 0 0)), .any, .a (.c (.w32 (c))), .any, .a (.c (.p 3 0 0)), .any, .a (.c (.p 4 0 0)), .a (.c (.p 5 0 0)), .any, .any, .any, .any, .a (.c (.int .i64 (↑k))), .any, .any, .any, .any, .any, .any, .any, .any, .any, .any, .any, .any, .any, .any, .any, .any, .any, .any, .any], [tabs 1 0 boxes cnt, keyC K, sealC 1 H, [.row 12 fun i => .w8 (nn i)], [.row 16 fun _ => .w8 0], [.row 16 fun i => .w8 (if i < 12 + k then ctrB nn c i else 0#8)]]⟩, fun k => k ≤ 4, fun k => 4 - k, ⟨0, [0, 1, 2, 3, 4, 5], ⟨⟨rfl, rfl, rfl⟩, ?_⟩, by omega⟩, fun k hk => ⟨fun h => ?_, fun h => ?_⟩⟩
  · (repeat first | exact trivial | refine ⟨rfl, ?_⟩ | refine ⟨fun _ _ => ⟨rfl, trivial⟩, ?_⟩ | refine ⟨fun _ _ => trivial, ?_⟩ | refine ⟨by omega, ?_⟩ | refine ⟨fun _ _ => eqC_winS, ?_⟩ | refine ⟨fun _ _ => eqC_winM, ?_⟩ | refine ⟨fun _ _ => eqC_winB, ?_⟩ | refine ⟨fun _ _ => eqC_selfB, ?_⟩ | refine ⟨fun _ _ => eqC_mpB, ?_⟩)
    refine ⟨fun j hj => eqC_w8 ?_, trivial⟩
    show updN _ _ _ _ _ = _
    unfold updN
    by_cases h : j < 12
    · rw [if_pos ⟨Nat.zero_le _, by show j < 0 + 12; omega⟩, if_pos (by omega)]
      unfold ctrB
      rw [if_pos h]
      rfl
    · rw [if_neg (by show ¬ (0 ≤ j ∧ j < 0 + 12); omega), if_neg (by omega)]
      rfl
  · have hlt : (k : Int) < 4 := of_decide_eq_true h
    have hl : k < 4 := by omega
    (repeat first | refine ⟨by omega, ?_⟩ | refine ⟨by decide, ?_⟩ | refine ⟨idx8 _, ?_⟩ | refine ⟨lt8 (Nat.le_refl _) _, ?_⟩)
    refine ⟨rfl, ⟨by omega, by omega⟩, k + 1, [0, 1, 2, 3, 4, 5], ⟨⟨rfl, rfl, rfl⟩, ?_⟩, by dsimp only; omega, by dsimp only; omega⟩
    (repeat first | exact trivial | refine ⟨rfl, ?_⟩ | refine ⟨fun _ _ => ⟨rfl, trivial⟩, ?_⟩ | refine ⟨fun _ _ => trivial, ?_⟩ | refine ⟨by omega, ?_⟩ | refine ⟨fun _ _ => eqC_winS, ?_⟩ | refine ⟨fun _ _ => eqC_winM, ?_⟩ | refine ⟨fun _ _ => eqC_winB, ?_⟩ | refine ⟨fun _ _ => eqC_selfB, ?_⟩ | refine ⟨fun _ _ => eqC_mpB, ?_⟩)
    refine ⟨fun j hj => eqC_w8 ?_, trivial⟩
    have e0 : (12 + (k : Int)).toNat + 0 = 12 + k := by omega
    rw [e0, sh3 k hl]
    refine (upd_w8 (g := fun i => .w8 (if i < 12 + (k + 1) then ctrB nn c i else 0#8)) ?_ (fun i hi => ?_) j)
    · refine congrArg SC.w8 ?_
      rw [if_pos (by omega)]
      unfold ctrB
      rw [if_neg (by omega)]
    · have : i < 12 + k ↔ i < 12 + (k + 1) := by omega
      simp only [this]
  · obtain rfl : k = 4 := by have : ¬ (k : Int) < 4 := of_decide_eq_false h; have hk : k ≤ 4 := hk; omega
    refine ⟨some [2,5], [], [(0, true), (1, true), (2, true), (3, true), (4, true), (5, false)], [6], by kernel_rfl, ?_⟩
    (repeat first | refine ⟨by omega, ?_⟩ | refine ⟨by decide, ?_⟩ | refine ⟨idx8 _, ?_⟩ | refine ⟨lt8 (Nat.le_refl _) _, ?_⟩)
    refine ⟨by kernel_rfl, call_same (fn_turn' cnt key (ctrB nn c) K (E (ctrB nn c)) hK (by rw [hE]) (by omega)) [0, 1] rfl ⟨rfl, rfl, rfl, fun j hj => eqC_w8 (congrArg SC.w8 (if_pos (by omega))), trivial⟩ (by (repeat first | exact trivial | refine ⟨rfl, ?_⟩ | refine ⟨fun _ _ => ⟨rfl, trivial⟩, ?_⟩ | refine ⟨fun _ _ => trivial, ?_⟩ | refine ⟨by omega, ?_⟩ | refine ⟨fun _ _ => eqC_winS, ?_⟩ | refine ⟨fun _ _ => eqC_winM, ?_⟩ | refine ⟨fun _ _ => eqC_winB, ?_⟩ | refine ⟨fun _ _ => eqC_selfB, ?_⟩ | refine ⟨fun _ _ => eqC_mpB, ?_⟩)) (fun _ _ => trivial) ?_⟩
    rintro x hs ⟨rfl, rfl⟩
    refine ⟨rfl, rfl, by omega, .a (blk (E (ctrB nn c))), [tabs 1 0 boxes (cnt + 1), keyC K, sealC 1 H], ⟨[0, 1, 2], ⟨rfl, rfl, rfl⟩, ?_⟩, rfl, rfl⟩
    (repeat first | exact trivial | refine ⟨rfl, ?_⟩ | refine ⟨fun _ _ => ⟨rfl, trivial⟩, ?_⟩ | refine ⟨fun _ _ => trivial, ?_⟩ | refine ⟨by omega, ?_⟩ | refine ⟨fun _ _ => eqC_winS, ?_⟩ | refine ⟨fun _ _ => eqC_winM, ?_⟩ | refine ⟨fun _ _ => eqC_winB, ?_⟩ | refine ⟨fun _ _ => eqC_selfB, ?_⟩ | refine ⟨fun _ _ => eqC_mpB, ?_⟩)
end Sx
end Go.Proofs.Ytndlhhhebijknaa
end

section
/-
  Forms laid bare by an equation. Over any program. No condition of its own.
-/
namespace Go.Proofs.Ytndlhhhebijknaa
set_option linter.unusedVariables false
namespace Sx

theorem frcN_of {n m : Nat} {k : Nat → Prop} (h : n = m) (hk : k m) : frcN n k := by subst h; exact hk
theorem frc_upd {f : Nat → SC} {o b : Nat} {x : SC} {k : SC → Prop} (h : b ≠ o) (hk : frcSC (f b) k) : frcSC (upd f o x b) k := by
  unfold upd; rw [if_neg h]; exact hk
end Sx
end Go.Proofs.Ytndlhhhebijknaa
end

section
/-
  The program's sealer: bytes turned; what is gone over. No condition.
-/
namespace Go.Proofs.Ytndlhhhebijknaa
set_option linter.unusedVariables false
namespace Sx
open Aes Gcm Sha

set_option maxRecDepth 20000 in
theorem fn_crypt (z : Bool) (N o n c : Nat) (l : Bs) (cnt : Int) (key K : Nat → BitVec 8) (E : (Nat → BitVec 8) → Nat → BitVec 8) (hK : pKeys key = K) (hE : pTurn key = E) (H : Gcm.E) (nn : Nat → BitVec 8) (hl : l.length = n) (hN : o + n ≤ N) (hc : n ≤ c) (hz : z = true → n = 0) (hn : n ≤ 1000000) (hcnt : 0 ≤ cnt ∧ cnt + ((n + 15) / 16 : Nat) ≤ 1000000000) :
    FnR Try.prog tds 55 1 [bts z N o n (L l), tabs 1 0 boxes cnt, keyD 1 K, sealC 2 H] [.c (.p 3 0 0), nonA nn, .c (.sn z 0 0 o n c)] (fun _ => True)
      (fun x hs => x = .a (.c (.sl 4 0 0 n (n + 16))) ∧ hs = [bts z N o n (L l), tabs 1 0 boxes (cnt + ((n + 15) / 16 : Nat)), keyD 1 K, sealC 2 H, [.row (n + 16) (bytesF n (L (cryL E nn l)))]]) := by
  refine fn_of_body tds_ok follows_ Try.func55 rfl (t := .a (.c (.p 3 0 0)) :: .a (nonA nn) :: .a (.c (.sn z 0 0 o n c)) :: anys 42) rfl (fun w r0 hr _ => ?_)
  obtain ⟨x0, x1, x2, x3, rfl⟩ := len4' hr
  refine ⟨rfl, ⟨by omega, by omega⟩, ⟨by omega, by omega, by show ((n : Int) + 16) * 1 ≤ 140737488355328; omega, by omega⟩, ?_⟩
  have e1 : ((n : Nat) : Int).toNat = n := by omega
  have e2 : (((n : Nat) : Int) + 16).toNat = n + 16 := by omega
  refine frcN_of e1 (frcN_of e2 ?_)
  obtain ⟨C, hC⟩ : ∃ C, cryB E nn l = C := ⟨_, rfl⟩
  obtain ⟨W, hW⟩ : ∃ W, withB E nn = W := ⟨_, rfl⟩
  have hW0 : W 0 = fun _ => 0#8 := by rw [← hW]; rfl
  have hWs : ∀ k, W (k + 1) = E (ctrB nn (BitVec.ofNat 32 (2 + k / 16))) := fun k => by
    rw [← hW]; unfold withB; rw [if_neg (by omega), show 1 + (k + 1 + 15) / 16 = 2 + k / 16 by omega]
  have hWk : ∀ k, k % 16 ≠ 0 → W k = W (k + 1) := fun k h => by
    obtain ⟨k, rfl⟩ : ∃ i, k = i + 1 := ⟨k - 1, by omega⟩
    rw [hWs, hWs, show (k + 1) / 16 = k / 16 by omega]
  refine .inl ⟨Nat, fun k => ⟨[.a (.c (.p 3 0 0)), .any, .any, .any, .a (.c (.p 4 0 0)), .any, .any, .a (.c (.sl 5 0 0 n (n + 16))), .a (.c (.w32 ((BitVec.ofNat 32 (1 + (k + 15) / 16))))), .a (.c (.p 6 0 0)), .any, .any, .any, .any, .any, .any, .any, .any, .a (.c (.sn z 0 0 o n c)), .a (.c (.int .i64 (↑n))), .a (.c (.int .i64 (↑k))), .any, .any, .any, .any, .any, .any, .any, .any, .any, .any, .any, .any, .any, .any, .any, .any, .any, .any, .any, .any, .any, .any, .any, .any], [bts z N o n (L l), tabs 1 0 boxes (cnt + ((k + 15) / 16 : Nat)), keyD 1 K, sealC 2 H, [.row 12 fun i => .w8 (nn i)], [.row (n + 16) (fun j => .w8 (if j < k then C j else 0#8))], [.row 16 fun i => .w8 (W k i)]]⟩, fun k => k ≤ n, fun k => n - k, ⟨0, [0, 1, 2, 3, 4, 5, 6], ⟨⟨rfl, rfl, rfl⟩, ?_⟩, by omega⟩, fun k hk => ⟨fun h => ?_, fun h => ?_⟩⟩
  · (repeat first | exact trivial | refine ⟨rfl, ?_⟩ | refine ⟨fun _ _ => ⟨rfl, trivial⟩, ?_⟩ | refine ⟨fun _ _ => trivial, ?_⟩ | refine ⟨by omega, ?_⟩ | refine ⟨fun _ _ => eqC_winS, ?_⟩ | refine ⟨fun _ _ => eqC_winM, ?_⟩ | refine ⟨fun _ _ => eqC_winB, ?_⟩ | refine ⟨fun _ _ => eqC_selfB, ?_⟩ | refine ⟨fun _ _ => eqC_mpB, ?_⟩)
    refine eqC_bts ?_
    (repeat first | exact trivial | refine ⟨rfl, ?_⟩ | refine ⟨fun _ _ => ⟨rfl, trivial⟩, ?_⟩ | refine ⟨fun _ _ => trivial, ?_⟩ | refine ⟨by omega, ?_⟩ | refine ⟨fun _ _ => eqC_winS, ?_⟩ | refine ⟨fun _ _ => eqC_winM, ?_⟩ | refine ⟨fun _ _ => eqC_winB, ?_⟩ | refine ⟨fun _ _ => eqC_selfB, ?_⟩ | refine ⟨fun _ _ => eqC_mpB, ?_⟩)
    rw [hW0]
    (repeat first | exact trivial | refine ⟨rfl, ?_⟩ | refine ⟨fun _ _ => ⟨rfl, trivial⟩, ?_⟩ | refine ⟨fun _ _ => trivial, ?_⟩ | refine ⟨by omega, ?_⟩ | refine ⟨fun _ _ => eqC_winS, ?_⟩ | refine ⟨fun _ _ => eqC_winM, ?_⟩ | refine ⟨fun _ _ => eqC_winB, ?_⟩ | refine ⟨fun _ _ => eqC_selfB, ?_⟩ | refine ⟨fun _ _ => eqC_mpB, ?_⟩)
  · have hlt : k < n := by have : (k : Int) < n := of_decide_eq_true h; omega
    obtain rfl : z = false := by cases z; rfl; have := hz rfl; omega
    (repeat first | refine ⟨by omega, ?_⟩ | refine ⟨by decide, ?_⟩ | refine ⟨idx8 _, ?_⟩ | refine ⟨lt8 (Nat.le_refl _) _, ?_⟩)
    refine frc_win hlt ?_
    refine ⟨⟨by omega, by omega⟩, ?_⟩
    by_cases h16 : k % 16 = 0
    · have e3 : decide ((k : Int) % 16 = 0) = true := decide_eq_true (by omega)
      have ec : BitVec.ofNat 32 (1 + (k + 15) / 16) + 1#32 = BitVec.ofNat 32 (2 + k / 16) := by
        rw [show 2 + k / 16 = (1 + (k + 15) / 16) + 1 by omega]
        exact (BitVec.ofNat_add _ _).symm
      have hq : (k + 1 + 15) / 16 = (k + 15) / 16 + 1 := by omega
      (repeat first | refine ⟨fun _ => ?_, fun h => absurd h (by rw [e3]; decide)⟩ | refine ⟨fun h => absurd h (by rw [e3]; decide), fun _ => ?_⟩ | refine ⟨fun _ => ?_, fun h => Bool.noConfusion h⟩ | refine ⟨fun h => Bool.noConfusion h, fun _ => ?_⟩)
      (repeat first | refine And.intro (by omega) ?_ | refine And.intro (by decide) ?_ | (with_reducible refine frc_parts (by first | omega | decide) ?_) | (with_reducible refine frc_bytesL (by first | omega | decide) ?_) | refine And.intro rfl ?_)
      refine call_same (fn_counted (cnt + ((k + 15) / 16 : Nat)) key K E hK hE H nn (BitVec.ofNat 32 (2 + k / 16)) (by omega)) [1, 2, 3] rfl ⟨rfl, rfl, rfl, fun j hj => ⟨rfl, trivial⟩, ec, trivial⟩ (by (repeat first | exact trivial | refine ⟨rfl, ?_⟩ | refine ⟨fun _ _ => ⟨rfl, trivial⟩, ?_⟩ | refine ⟨fun _ _ => trivial, ?_⟩ | refine ⟨by omega, ?_⟩ | refine ⟨fun _ _ => eqC_winS, ?_⟩ | refine ⟨fun _ _ => eqC_winM, ?_⟩ | refine ⟨fun _ _ => eqC_winB, ?_⟩ | refine ⟨fun _ _ => eqC_selfB, ?_⟩ | refine ⟨fun _ _ => eqC_mpB, ?_⟩)) (fun _ _ => trivial) ?_
      rintro x hs ⟨rfl, rfl⟩
      rw [← hWs]
      (repeat first | refine And.intro (by omega) ?_ | refine And.intro (by decide) ?_ | (with_reducible refine frc_parts (by first | omega | decide) ?_) | (with_reducible refine frc_bytesL (by first | omega | decide) ?_) | refine And.intro rfl ?_)
      refine ⟨k + 1, [0, 1, 2, 3, 4, 5, 6], ⟨⟨rfl, rfl, rfl⟩, ?_⟩, by dsimp only; omega, by dsimp only; omega⟩
      (repeat first | exact trivial | refine ⟨rfl, ?_⟩ | refine ⟨fun _ _ => ⟨rfl, trivial⟩, ?_⟩ | refine ⟨fun _ _ => trivial, ?_⟩ | refine ⟨by omega, ?_⟩ | refine ⟨fun _ _ => eqC_winS, ?_⟩ | refine ⟨fun _ _ => eqC_winM, ?_⟩ | refine ⟨fun _ _ => eqC_winB, ?_⟩ | refine ⟨fun _ _ => eqC_selfB, ?_⟩ | refine ⟨fun _ _ => eqC_mpB, ?_⟩)
      refine ⟨by rw [show 1 + (k + 1 + 15) / 16 = 2 + k / 16 by omega]; exact ec, ?_⟩
      (repeat first | exact trivial | refine ⟨rfl, ?_⟩ | refine ⟨fun _ _ => ⟨rfl, trivial⟩, ?_⟩ | refine ⟨fun _ _ => trivial, ?_⟩ | refine ⟨by omega, ?_⟩ | refine ⟨fun _ _ => eqC_winS, ?_⟩ | refine ⟨fun _ _ => eqC_winM, ?_⟩ | refine ⟨fun _ _ => eqC_winB, ?_⟩ | refine ⟨fun _ _ => eqC_selfB, ?_⟩ | refine ⟨fun _ _ => eqC_mpB, ?_⟩)
      refine ⟨fun j hj => eqC_w8 ?_, ?_⟩
      · have e4 : (k : Int).toNat + 0 = k := by omega
        have e5 : ((k : Int) % 16).toNat + 0 = k % 16 := by omega
        rw [e4, e5]
        refine (upd_w8 (g := fun j => .w8 (if j < k + 1 then C j else 0#8)) ?_ (fun i hi => ?_) j)
        · rw [if_pos (by omega), ← hC]
          unfold cryB
          rw [← hWs]
          rfl
        · have : i < k + 1 ↔ i < k := by omega
          simp only [this]
      (repeat first | exact trivial | refine ⟨rfl, ?_⟩ | refine ⟨fun _ _ => ⟨rfl, trivial⟩, ?_⟩ | refine ⟨fun _ _ => trivial, ?_⟩ | refine ⟨by omega, ?_⟩ | refine ⟨fun _ _ => eqC_winS, ?_⟩ | refine ⟨fun _ _ => eqC_winM, ?_⟩ | refine ⟨fun _ _ => eqC_winB, ?_⟩ | refine ⟨fun _ _ => eqC_selfB, ?_⟩ | refine ⟨fun _ _ => eqC_mpB, ?_⟩)
    · have e3 : decide ((k : Int) % 16 = 0) = false := decide_eq_false (by omega)
      have hq : (k + 1 + 15) / 16 = (k + 15) / 16 := by omega
      (repeat first | refine ⟨fun _ => ?_, fun h => absurd h (by rw [e3]; decide)⟩ | refine ⟨fun h => absurd h (by rw [e3]; decide), fun _ => ?_⟩ | refine ⟨fun _ => ?_, fun h => Bool.noConfusion h⟩ | refine ⟨fun h => Bool.noConfusion h, fun _ => ?_⟩)
      (repeat first | refine And.intro (by omega) ?_ | refine And.intro (by decide) ?_ | (with_reducible refine frc_parts (by first | omega | decide) ?_) | (with_reducible refine frc_bytesL (by first | omega | decide) ?_) | refine And.intro rfl ?_)
      refine ⟨k + 1, [0, 1, 2, 3, 4, 5, 6], ⟨⟨rfl, rfl, rfl⟩, ?_⟩, by dsimp only; omega, by dsimp only; omega⟩
      (repeat first | exact trivial | refine ⟨rfl, ?_⟩ | refine ⟨fun _ _ => ⟨rfl, trivial⟩, ?_⟩ | refine ⟨fun _ _ => trivial, ?_⟩ | refine ⟨by omega, ?_⟩ | refine ⟨fun _ _ => eqC_winS, ?_⟩ | refine ⟨fun _ _ => eqC_winM, ?_⟩ | refine ⟨fun _ _ => eqC_winB, ?_⟩ | refine ⟨fun _ _ => eqC_selfB, ?_⟩ | refine ⟨fun _ _ => eqC_mpB, ?_⟩)
      refine ⟨by rw [hq], ?_⟩
      (repeat first | exact trivial | refine ⟨rfl, ?_⟩ | refine ⟨fun _ _ => ⟨rfl, trivial⟩, ?_⟩ | refine ⟨fun _ _ => trivial, ?_⟩ | refine ⟨by omega, ?_⟩ | refine ⟨fun _ _ => eqC_winS, ?_⟩ | refine ⟨fun _ _ => eqC_winM, ?_⟩ | refine ⟨fun _ _ => eqC_winB, ?_⟩ | refine ⟨fun _ _ => eqC_selfB, ?_⟩ | refine ⟨fun _ _ => eqC_mpB, ?_⟩)
      refine ⟨fun j hj => eqC_w8 ?_, ?_⟩
      · have e4 : (k : Int).toNat + 0 = k := by omega
        have e5 : ((k : Int) % 16).toNat + 0 = k % 16 := by omega
        rw [e4, e5]
        refine (upd_w8 (g := fun j => .w8 (if j < k + 1 then C j else 0#8)) ?_ (fun i hi => ?_) j)
        · rw [if_pos (by omega), ← hC]
          unfold cryB
          rw [← hWs, ← hWk k h16]
          rfl
        · have : i < k + 1 ↔ i < k := by omega
          simp only [this]
      (repeat first | exact trivial | refine ⟨rfl, ?_⟩ | refine ⟨fun _ _ => ⟨rfl, trivial⟩, ?_⟩ | refine ⟨fun _ _ => trivial, ?_⟩ | refine ⟨by omega, ?_⟩ | refine ⟨fun _ _ => eqC_winS, ?_⟩ | refine ⟨fun _ _ => eqC_winM, ?_⟩ | refine ⟨fun _ _ => eqC_winB, ?_⟩ | refine ⟨fun _ _ => eqC_selfB, ?_⟩ | refine ⟨fun _ _ => eqC_mpB, ?_⟩)
      exact ⟨fun j hj => eqC_w8 (by rw [hWk k h16]), trivial⟩
  · obtain rfl : k = n := by have : ¬ (k : Int) < n := of_decide_eq_false h; have hk : k ≤ n := hk; omega
    refine ⟨.a (.c (.sl 4 0 0 k (k + 16))), [bts z N o k (L l), tabs 1 0 boxes (cnt + ((k + 15) / 16 : Nat)), keyD 1 K, sealC 2 H, [.row (k + 16) (bytesF k (L (cryL E nn l)))]], ⟨[0, 1, 2, 3, 5], ⟨rfl, rfl, rfl⟩, ?_⟩, rfl, rfl⟩
    (repeat first | exact trivial | refine ⟨rfl, ?_⟩ | refine ⟨fun _ _ => ⟨rfl, trivial⟩, ?_⟩ | refine ⟨fun _ _ => trivial, ?_⟩ | refine ⟨by omega, ?_⟩ | refine ⟨fun _ _ => eqC_winS, ?_⟩ | refine ⟨fun _ _ => eqC_winM, ?_⟩ | refine ⟨fun _ _ => eqC_winB, ?_⟩ | refine ⟨fun _ _ => eqC_selfB, ?_⟩ | refine ⟨fun _ _ => eqC_mpB, ?_⟩)
    refine eqC_bts ?_
    (repeat first | exact trivial | refine ⟨rfl, ?_⟩ | refine ⟨fun _ _ => ⟨rfl, trivial⟩, ?_⟩ | refine ⟨fun _ _ => trivial, ?_⟩ | refine ⟨by omega, ?_⟩ | refine ⟨fun _ _ => eqC_winS, ?_⟩ | refine ⟨fun _ _ => eqC_winM, ?_⟩ | refine ⟨fun _ _ => eqC_winB, ?_⟩ | refine ⟨fun _ _ => eqC_selfB, ?_⟩ | refine ⟨fun _ _ => eqC_mpB, ?_⟩)
    refine ⟨fun j hj => eqC_bytes (f := fun j => SC.w8 (if j < k then C j else 0#8)) (fun i hi => ?_) j, trivial⟩
    rw [if_pos hi, ← hC]
    unfold cryL
    rw [hl, L_tab hi]
theorem len2s {α : Type} : ∀ {l : List α}, l.length = 2 → ∃ a b, l = [a, b]
  | [a, b], _ => ⟨a, b, rfl⟩
abbrev sealH (H : E) : List Seg := [.one .any, .one (.w64 (hi H)), .one (.w64 (lo H))]
set_option maxRecDepth 20000 in
theorem fn_hash (z : Bool) (N o n c : Nat) (l : Bs) (H e : E) (hl : l.length = n) (hN : o + n ≤ N) (hc : n ≤ c) (hz : z = true → n = 0) (hn : n ≤ 1000000) :
    FnR Try.prog tds 73 2 [bts z N o n (L l), sealH H] [.c (.p 1 0 0), eltA e, .c (.sn z 0 0 o n c)] (fun _ => True)
      (fun x hs => x = .a (eltA (hL H e l)) ∧ hs = [bts z N o n (L l), sealH H]) := by
  refine fn_of_body tds_ok follows_ Try.func73 rfl (t := .a (.c (.p 1 0 0)) :: .a (eltA e) :: .a (.c (.sn z 0 0 o n c)) :: anys 35) rfl (fun w r0 hr _ => ?_)
  obtain ⟨x0, x1, rfl⟩ := len2s hr
  cases z with
  | true =>
    obtain rfl := hz rfl
    refine ⟨rfl, ?_⟩
    refine .inl ⟨Unit, fun _ => ⟨[.a (.c (.p 1 0 0)), .any, .a (.c (.sn true 0 0 o 0 c)), .any, .a (.c (.p 2 0 0)), .any, .a (.c (.p 3 0 0)), .any, .any, .any, .any, .any, .any, .any, .any, .any, .any, .any, .any, .any, .any, .any, .any, .any, .any, .any, .any, .any, .any, .any, .any, .any, .any, .any, .any, .any, .any, .any], [bts true N o 0 (L l), sealH H, elt2 (hi e) (lo e), elt2 0 0]⟩,
      fun _ => True, fun _ => 0, ⟨(), [0, 1, 2, 3], ⟨⟨rfl, rfl, rfl⟩, ?_⟩, trivial⟩, fun _ _ => ⟨fun h => absurd (of_decide_eq_true h) (by decide), fun h => ?_⟩⟩
    · (repeat first | exact trivial | refine ⟨rfl, ?_⟩ | refine ⟨fun _ _ => ⟨rfl, trivial⟩, ?_⟩ | refine ⟨by omega, ?_⟩)
    · refine ⟨rfl, .a (eltA (hL H e l)), [bts true N o 0 (L l), sealH H], ⟨[0, 1], ⟨rfl, rfl, rfl⟩, ?_⟩, rfl, rfl⟩
      have e0 : hL H e l = e := by unfold hL; rw [hl]; rfl
      rw [e0]
      (repeat first | exact trivial | refine ⟨rfl, ?_⟩ | refine ⟨fun _ _ => ⟨rfl, trivial⟩, ?_⟩ | refine ⟨by omega, ?_⟩)
  | false =>
  refine ⟨rfl, ?_⟩
  refine .inl ⟨Nat × Nat × Nat, fun (k, oo, cc) => ⟨[.a (.c (.p 1 0 0)), .any, .a (.c (.sn false 0 0 oo (n - 16 * k) cc)), .any, .a (.c (.p 2 0 0)), .any, .a (.c (.p 3 0 0)), .any, .any, .any, .any, .any, .any, .any, .any, .any, .any, .any, .any, .any, .any, .any, .any, .any, .any, .any, .any, .any, .any, .any, .any, .any, .any, .any, .any, .any, .any, .any], [[.row N (winF o n (L l))], sealH H, elt2 (hi (hS H e l k)) (lo (hS H e l k)), elt2 0 0]⟩,
    fun (k, oo, cc) => k ≤ (n + 15) / 16 ∧ (16 * k < n → oo = o + 16 * k) ∧ n - 16 * k ≤ cc ∧ cc ≤ c, fun (k, _, _) => n - k, ⟨(0, o, c), [0, 1, 2, 3], ⟨⟨rfl, rfl, rfl⟩, ?_⟩, by omega, by omega, by omega, by omega⟩, fun (k, oo, cc) ⟨hk, hoo, hcc, hcc'⟩ => ⟨fun h => ?_, fun h => ?_⟩⟩
  · (repeat first | exact trivial | refine ⟨rfl, ?_⟩ | refine ⟨fun _ _ => ⟨rfl, trivial⟩, ?_⟩ | refine ⟨fun _ _ => trivial, ?_⟩ | refine ⟨by omega, ?_⟩ | refine ⟨fun _ _ => eqC_winS, ?_⟩ | refine ⟨fun _ _ => eqC_winM, ?_⟩ | refine ⟨fun _ _ => eqC_winB, ?_⟩ | refine ⟨fun _ _ => eqC_selfB, ?_⟩ | refine ⟨fun _ _ => eqC_mpB, ?_⟩)
  · have hlt : 16 * k < n := by have : ((n - 16 * k : Nat) : Int) > 0 := of_decide_eq_true h; omega
    obtain rfl : oo = o + 16 * k := hoo hlt
    (repeat first | refine ⟨by omega, ?_⟩ | refine ⟨by decide, ?_⟩ | refine ⟨idx8 _, ?_⟩ | refine ⟨lt8 (Nat.le_refl _) _, ?_⟩ | refine ⟨rfl, ?_⟩)
    refine ⟨fun q => winF o n (L l) (q + (o + 16 * k)), ⟨fun h => Bool.noConfusion h, fun _ => ⟨N, winF o n (L l), [], rfl, by simp only [scale]; omega, fun _ _ => rfl⟩⟩, ?_⟩
    refine ⟨(show 0 + min (n - 16 * k) 16 ≤ 16 by omega), ?_⟩
    obtain ⟨m, hm⟩ : ∃ m, min (n - 16 * k) 16 = m := ⟨_, rfl⟩
    have hm1 : m ≤ n - 16 * k ∧ m ≤ 16 ∧ 0 < m ∧ (m = n - 16 * k ∨ m = 16) := by omega
    rw [hm]
    refine ⟨⟨by omega, by omega, by omega⟩, ?_⟩
    have e2 : ((m : Nat) : Int).toNat = m := by omega
    have e3 : ((n - 16 * k : Nat) : Int).toNat = n - 16 * k := by omega
    obtain ⟨o2, ho2⟩ : ∃ o2, (if cc = m then o + 16 * k else o + 16 * k + m * 1) = o2 := ⟨_, rfl⟩
    have e5 : n - 16 * k - m = n - 16 * (k + 1) := by omega
    refine frcN_of e2 ?_
    refine frcN_of e3 ?_
    refine frcN_of ho2 ?_
    refine frcN_of e5 ?_
    refine frcN_of rfl ?_
    (repeat first | refine And.intro (by omega) ?_ | refine And.intro (by decide) ?_ | (with_reducible refine frc_parts (by first | omega | decide) ?_) | (with_reducible refine frc_bytesL (by first | omega | decide) ?_) | refine And.intro rfl ?_)
    refine call_same (fn_load (partB l k)) [] rfl ⟨rfl, rfl, fun j hj => eqC_w8 ?_, trivial⟩ trivial (fun _ _ => trivial) ?_
    · show updN (fun _ => SC.w8 0) 0 m (fun q => winF o n (L l) (q + (o + 16 * k))) (j + 0) = SC.w8 (partB l k j)
      unfold updN partB
      rw [hl]
      by_cases hjm : j < m
      · rw [if_pos ⟨Nat.zero_le _, by omega⟩, if_pos (by omega)]
        show winF o n (L l) (j + 0 - 0 + (o + 16 * k)) = _
        rw [show j + 0 - 0 + (o + 16 * k) = o + (16 * k + j) by omega, winF_at _ _ _ (by omega)]
      · rw [if_neg (by omega), if_neg (by omega)]
        rfl
    rintro x hs ⟨rfl, rfl⟩
    (repeat first | refine And.intro (by omega) ?_ | refine And.intro (by decide) ?_ | (with_reducible refine frc_parts (by first | omega | decide) ?_) | (with_reducible refine frc_bytesL (by first | omega | decide) ?_) | refine And.intro rfl ?_)
    refine ⟨none, [], [(0, true), (1, true), (2, true), (3, true), (4, true), (5, true), (6, true), (7, true), (8, true), (9, true), (10, true), (11, true), (12, true), (13, true), (14, true), (15, false)], [16], by kernel_rfl, ?_⟩
    (repeat first | refine And.intro (by omega) ?_ | refine And.intro (by decide) ?_ | (with_reducible refine frc_parts (by first | omega | decide) ?_) | (with_reducible refine frc_bytesL (by first | omega | decide) ?_) | refine And.intro rfl ?_)
    refine call_same (fn_gtimes (hS H e l k ^^^ toE (partB l k)) H) [] rfl ⟨rfl, (hi_xor _ _).symm, (lo_xor _ _).symm, rfl, rfl, rfl, trivial⟩ trivial (fun _ _ => trivial) ?_
    rintro x hs ⟨rfl, rfl⟩
    refine ⟨rfl, ?_⟩
    refine ⟨(k + 1, o2, cc - m), [0, 1, 2, 3], ⟨⟨rfl, rfl, rfl⟩, ?_⟩, ⟨by omega, fun h2 => ?_, by omega, by omega⟩, by dsimp only; omega⟩
    · (repeat first | exact trivial | refine ⟨rfl, ?_⟩ | refine ⟨fun _ _ => ⟨rfl, trivial⟩, ?_⟩ | refine ⟨fun _ _ => trivial, ?_⟩ | refine ⟨by omega, ?_⟩ | refine ⟨fun _ _ => eqC_winS, ?_⟩ | refine ⟨fun _ _ => eqC_winM, ?_⟩ | refine ⟨fun _ _ => eqC_winB, ?_⟩ | refine ⟨fun _ _ => eqC_selfB, ?_⟩ | refine ⟨fun _ _ => eqC_mpB, ?_⟩)
    · rw [← ho2, if_neg (by omega)]; omega
  · obtain rfl : k = (n + 15) / 16 := by have : ¬ ((n - 16 * k : Nat) : Int) > 0 := of_decide_eq_false h; omega
    refine ⟨rfl, .a (eltA (hL H e l)), [[.row N (winF o n (L l))], sealH H], ⟨[0, 1], ⟨rfl, rfl, rfl⟩, ?_⟩, rfl, rfl⟩
    unfold hL
    rw [hl]
    (repeat first | exact trivial | refine ⟨rfl, ?_⟩ | refine ⟨fun _ _ => ⟨rfl, trivial⟩, ?_⟩ | refine ⟨fun _ _ => trivial, ?_⟩ | refine ⟨by omega, ?_⟩ | refine ⟨fun _ _ => eqC_winS, ?_⟩ | refine ⟨fun _ _ => eqC_winM, ?_⟩ | refine ⟨fun _ _ => eqC_winB, ?_⟩ | refine ⟨fun _ _ => eqC_selfB, ?_⟩ | refine ⟨fun _ _ => eqC_mpB, ?_⟩)
end Sx
end Go.Proofs.Ytndlhhhebijknaa
end

section
/-
  The program's sealer: marks; sealed, opened. No condition.
-/
namespace Go.Proofs.Ytndlhhhebijknaa
set_option linter.unusedVariables false
namespace Sx
open Aes Gcm Sha

set_option maxRecDepth 20000 in
theorem fn_tag (za zh : Bool) (Na Nh oa oh na nh ca ch : Nat) (a b : Bs) (cnt : Int) (key K : Nat → BitVec 8) (E : (Nat → BitVec 8) → Nat → BitVec 8) (hK : pKeys key = K) (hE : pTurn key = E) (H : Gcm.E) (nn : Nat → BitVec 8)
    (hla : a.length = na) (hNa : oa + na ≤ Na) (hca : na ≤ ca) (hza : za = true → na = 0) (hna : na ≤ 1000000) (hlh : b.length = nh) (hNh : oh + nh ≤ Nh) (hch : nh ≤ ch) (hzh : zh = true → nh = 0) (hnh : nh ≤ 1000000) (hcnt : 0 ≤ cnt ∧ cnt ≤ 1000000000) :
    FnR Try.prog tds 56 2 [bts za Na oa na (L a), bts zh Nh oh nh (L b), tabs 1 0 boxes cnt, keyD 2 K, sealC 3 H] [.c (.p 4 0 0), nonA nn, .c (.sn za 0 0 oa na ca), .c (.sn zh 1 0 oh nh ch)] (fun _ => True)
      (fun x hs => x = .a (blk (tagB E H nn a b)) ∧ hs = [bts za Na oa na (L a), bts zh Nh oh nh (L b), tabs 1 0 boxes (cnt + 1), keyD 2 K, sealC 3 H]) := by
  refine fn_of_body tds_ok follows_ Try.func56 rfl (t := .a (.c (.p 4 0 0)) :: .a (nonA nn) :: .a (.c (.sn za 0 0 oa na ca)) :: .a (.c (.sn zh 1 0 oh nh ch)) :: anys 55) rfl (fun w r0 hr _ => ?_)
  obtain ⟨x0, x1, x2, x3, x4, rfl⟩ := len5' hr
  obtain ⟨e1, he1⟩ : ∃ e, hL H 0#128 a = e := ⟨_, rfl⟩
  obtain ⟨e2, he2⟩ : ∃ e, hL H e1 b = e := ⟨_, rfl⟩
  obtain ⟨e3, he3⟩ : ∃ e, mul (e2 ^^^ lenE na nh) H = e := ⟨_, rfl⟩
  have hT : tagE H a b = e3 := by unfold tagE; rw [he1, he2, hla, hlh, he3]
  refine ⟨rfl, ?_⟩
  refine ⟨by kernel_rfl, call_same (fn_hash za Na oa na ca a H 0#128 hla hNa hca hza hna) [0, 4] rfl ⟨rfl, rfl, hi0.symm, lo0.symm, rfl, rfl, rfl, rfl, trivial⟩ ?_ (fun _ _ => trivial) ?_⟩
  · refine eqC_bts ?_
    (repeat first | exact trivial | refine ⟨rfl, ?_⟩ | refine ⟨fun _ _ => ⟨rfl, trivial⟩, ?_⟩ | refine ⟨fun _ _ => trivial, ?_⟩ | refine ⟨by omega, ?_⟩ | refine ⟨fun _ _ => eqC_winS, ?_⟩ | refine ⟨fun _ _ => eqC_winM, ?_⟩ | refine ⟨fun _ _ => eqC_winB, ?_⟩ | refine ⟨fun _ _ => eqC_selfB, ?_⟩ | refine ⟨fun _ _ => eqC_mpB, ?_⟩)
  rintro x hs ⟨rfl, rfl⟩
  rw [he1]
  refine ⟨rfl, ?_⟩
  refine ⟨by kernel_rfl, call_same (fn_hash zh Nh oh nh ch b H e1 hlh hNh hch hzh hnh) [1, 4] rfl ⟨rfl, rfl, rfl, rfl, rfl, rfl, rfl, rfl, trivial⟩ ?_ (fun _ _ => trivial) ?_⟩
  · refine eqC_bts ?_
    (repeat first | exact trivial | refine ⟨rfl, ?_⟩ | refine ⟨fun _ _ => ⟨rfl, trivial⟩, ?_⟩ | refine ⟨fun _ _ => trivial, ?_⟩ | refine ⟨by omega, ?_⟩ | refine ⟨fun _ _ => eqC_winS, ?_⟩ | refine ⟨fun _ _ => eqC_winM, ?_⟩ | refine ⟨fun _ _ => eqC_winB, ?_⟩ | refine ⟨fun _ _ => eqC_selfB, ?_⟩ | refine ⟨fun _ _ => eqC_mpB, ?_⟩)
  rintro x hs ⟨rfl, rfl⟩
  rw [he2]
  (repeat first | refine ⟨by omega, ?_⟩ | refine ⟨by decide, ?_⟩ | refine ⟨idx8 _, ?_⟩ | refine ⟨lt8 (Nat.le_refl _) _, ?_⟩ | refine ⟨rfl, ?_⟩)
  refine ⟨none, [7], [(0, true), (1, true), (2, true), (3, true), (4, true), (5, false), (6, false), (7, false)], [8], by kernel_rfl, ?_⟩
  (repeat first | refine And.intro (by omega) ?_ | refine And.intro (by decide) ?_ | (with_reducible refine frc_parts (by first | omega | decide) ?_) | (with_reducible refine frc_bytesL (by first | omega | decide) ?_) | refine And.intro rfl ?_)
  refine call_same (fn_gtimes (e2 ^^^ lenE na nh) H) [] rfl ⟨rfl, ?_, ?_, rfl, rfl, rfl, trivial⟩ trivial (fun _ _ => trivial) ?_
  · rw [hi_xor]; unfold lenE; rw [hi_mk]; rfl
  · rw [lo_xor]; unfold lenE; rw [lo_mk]; rfl
  rintro x hs ⟨rfl, rfl⟩
  rw [he3]
  (repeat first | refine And.intro (by omega) ?_ | refine And.intro (by decide) ?_ | (with_reducible refine frc_parts (by first | omega | decide) ?_) | (with_reducible refine frc_bytesL (by first | omega | decide) ?_) | refine And.intro rfl ?_)
  refine call_same (fn_store e3) [] rfl ⟨rfl, rfl, rfl, trivial⟩ trivial (fun _ _ => trivial) ?_
  rintro x hs ⟨rfl, rfl⟩
  (repeat first | refine And.intro (by omega) ?_ | refine And.intro (by decide) ?_ | (with_reducible refine frc_parts (by first | omega | decide) ?_) | (with_reducible refine frc_bytesL (by first | omega | decide) ?_) | refine And.intro rfl ?_)
  refine call_same (fn_counted cnt key K E hK hE H nn 1#32 hcnt) [2, 3, 4] rfl ⟨rfl, rfl, rfl, fun j hj => ⟨rfl, trivial⟩, rfl, trivial⟩ (by (repeat first | exact trivial | refine ⟨rfl, ?_⟩ | refine ⟨fun _ _ => ⟨rfl, trivial⟩, ?_⟩ | refine ⟨fun _ _ => trivial, ?_⟩ | refine ⟨by omega, ?_⟩ | refine ⟨fun _ _ => eqC_winS, ?_⟩ | refine ⟨fun _ _ => eqC_winM, ?_⟩ | refine ⟨fun _ _ => eqC_winB, ?_⟩ | refine ⟨fun _ _ => eqC_selfB, ?_⟩ | refine ⟨fun _ _ => eqC_mpB, ?_⟩)) (fun _ _ => trivial) ?_
  rintro x hs ⟨rfl, rfl⟩
  obtain ⟨Y, hY⟩ : ∃ Y, E (ctrB nn 1#32) = Y := ⟨_, rfl⟩
  obtain ⟨T, hTT⟩ : ∃ T, byE e3 = T := ⟨_, rfl⟩
  rw [hY, hTT]
  refine .inl ⟨Nat, fun k => ⟨[.any, .any, .any, .any, .any, .any, .any, .any, .a (.c (.p 6 0 0)), .any, .a (.c (.p 8 0 0)), .any, .any, .any, .any, .any, .any, .any, .any, .any, .any, .any, .any, .any, .any, .any, .any, .any, .any, .any, .any, .any, .any, .any, .any, .any, .any, .any, .any, .any, .any, .any, .any, .any, .any, .any, .a (.agg [.row 16 fun i => .w8 (Y i)]), .a (.c (.int .i64 (↑k))), .any, .any, .any, .any, .any, .any, .any, .any, .any, .any, .any], [bts za Na oa na (L a), bts zh Nh oh nh (L b), tabs 1 0 boxes (cnt + 1), keyD 2 K, sealC 3 H, [.row 12 fun i => .w8 (nn i)], [.row 16 fun _ => .w8 0], [.one .any, .one .any], [.row 16 fun i => .w8 (if i < k then T i ^^^ Y i else T i)]]⟩, fun k => k ≤ 16, fun k => 16 - k, ⟨0, [0, 1, 2, 3, 4, 5, 6, 7, 8], ⟨⟨rfl, rfl, rfl⟩, ?_⟩, by omega⟩, fun k hk => ⟨fun h => ?_, fun h => ?_⟩⟩
  · (repeat first | exact trivial | refine ⟨rfl, ?_⟩ | refine ⟨fun _ _ => ⟨rfl, trivial⟩, ?_⟩ | refine ⟨fun _ _ => trivial, ?_⟩ | refine ⟨by omega, ?_⟩ | refine ⟨fun _ _ => eqC_winS, ?_⟩ | refine ⟨fun _ _ => eqC_winM, ?_⟩ | refine ⟨fun _ _ => eqC_winB, ?_⟩ | refine ⟨fun _ _ => eqC_selfB, ?_⟩ | refine ⟨fun _ _ => eqC_mpB, ?_⟩)
    refine eqC_bts (eqC_bts ?_)
    (repeat first | exact trivial | refine ⟨rfl, ?_⟩ | refine ⟨fun _ _ => ⟨rfl, trivial⟩, ?_⟩ | refine ⟨fun _ _ => trivial, ?_⟩ | refine ⟨by omega, ?_⟩ | refine ⟨fun _ _ => eqC_winS, ?_⟩ | refine ⟨fun _ _ => eqC_winM, ?_⟩ | refine ⟨fun _ _ => eqC_winB, ?_⟩ | refine ⟨fun _ _ => eqC_selfB, ?_⟩ | refine ⟨fun _ _ => eqC_mpB, ?_⟩)
  · have hlt : (k : Int) < 16 := of_decide_eq_true h
    (repeat first | refine And.intro (by omega) ?_ | refine And.intro (by decide) ?_ | (with_reducible refine frc_parts (by first | omega | decide) ?_) | (with_reducible refine frc_bytesL (by first | omega | decide) ?_) | refine And.intro rfl ?_)
    refine ⟨k + 1, [0, 1, 2, 3, 4, 5, 6, 7, 8], ⟨⟨rfl, rfl, rfl⟩, ?_⟩, by dsimp only; omega, by dsimp only; omega⟩
    (repeat first | exact trivial | refine ⟨rfl, ?_⟩ | refine ⟨fun _ _ => ⟨rfl, trivial⟩, ?_⟩ | refine ⟨fun _ _ => trivial, ?_⟩ | refine ⟨by omega, ?_⟩ | refine ⟨fun _ _ => eqC_winS, ?_⟩ | refine ⟨fun _ _ => eqC_winM, ?_⟩ | refine ⟨fun _ _ => eqC_winB, ?_⟩ | refine ⟨fun _ _ => eqC_selfB, ?_⟩ | refine ⟨fun _ _ => eqC_mpB, ?_⟩)
    refine eqC_bts (eqC_bts ?_)
    (repeat first | exact trivial | refine ⟨rfl, ?_⟩ | refine ⟨fun _ _ => ⟨rfl, trivial⟩, ?_⟩ | refine ⟨fun _ _ => trivial, ?_⟩ | refine ⟨by omega, ?_⟩ | refine ⟨fun _ _ => eqC_winS, ?_⟩ | refine ⟨fun _ _ => eqC_winM, ?_⟩ | refine ⟨fun _ _ => eqC_winB, ?_⟩ | refine ⟨fun _ _ => eqC_selfB, ?_⟩ | refine ⟨fun _ _ => eqC_mpB, ?_⟩)
    refine ⟨fun j hj => eqC_w8 ?_, trivial⟩
    have e4 : (k : Int).toNat + 0 = k := by omega
    rw [e4]
    refine (upd_w8 (g := fun i => .w8 (if i < k + 1 then T i ^^^ Y i else T i)) ?_ (fun i hi => ?_) j)
    · rw [if_neg (by omega : ¬ k < k), if_pos (by omega : k < k + 1)]
    · have : i < k + 1 ↔ i < k := by omega
      simp only [this]
  · obtain rfl : k = 16 := by have : ¬ (k : Int) < 16 := of_decide_eq_false h; have hk : k ≤ 16 := hk; omega
    (repeat first | refine And.intro (by omega) ?_ | refine And.intro (by decide) ?_ | (with_reducible refine frc_parts (by first | omega | decide) ?_) | (with_reducible refine frc_bytesL (by first | omega | decide) ?_) | refine And.intro rfl ?_)
    refine ⟨.a (blk (tagB E H nn a b)), [bts za Na oa na (L a), bts zh Nh oh nh (L b), tabs 1 0 boxes (cnt + 1), keyD 2 K, sealC 3 H], ⟨[0, 1, 2, 3, 4], ⟨rfl, rfl, rfl⟩, ?_⟩, rfl, rfl⟩
    (repeat first | exact trivial | refine ⟨rfl, ?_⟩ | refine ⟨fun _ _ => ⟨rfl, trivial⟩, ?_⟩ | refine ⟨fun _ _ => trivial, ?_⟩ | refine ⟨by omega, ?_⟩ | refine ⟨fun _ _ => eqC_winS, ?_⟩ | refine ⟨fun _ _ => eqC_winM, ?_⟩ | refine ⟨fun _ _ => eqC_winB, ?_⟩ | refine ⟨fun _ _ => eqC_selfB, ?_⟩ | refine ⟨fun _ _ => eqC_mpB, ?_⟩)
    refine ⟨fun j hj => eqC_w8 (congrArg SC.w8 ?_), ?_⟩
    · rw [if_pos (show j + 0 + 0 < 16 from hj)]
      unfold tagB
      rw [hT, hTT, hY]
      rfl
    refine eqC_bts (eqC_bts ?_)
    (repeat first | exact trivial | refine ⟨rfl, ?_⟩ | refine ⟨fun _ _ => ⟨rfl, trivial⟩, ?_⟩ | refine ⟨fun _ _ => trivial, ?_⟩ | refine ⟨by omega, ?_⟩ | refine ⟨fun _ _ => eqC_winS, ?_⟩ | refine ⟨fun _ _ => eqC_winM, ?_⟩ | refine ⟨fun _ _ => eqC_winB, ?_⟩ | refine ⟨fun _ _ => eqC_selfB, ?_⟩ | refine ⟨fun _ _ => eqC_mpB, ?_⟩)
set_option maxRecDepth 20000 in
theorem fn_gseal (za zh : Bool) (Na Nh oa oh na nh ca ch : Nat) (a b S : Bs) (cnt : Int) (key K : Nat → BitVec 8) (E : (Nat → BitVec 8) → Nat → BitVec 8) (hK : pKeys key = K) (hE : pTurn key = E) (H : Gcm.E) (nn : Nat → BitVec 8) (hS : sealL E H nn a b = S)
    (hla : a.length = na) (hNa : oa + na ≤ Na) (hca : na ≤ ca) (hza : za = true → na = 0) (hna : na ≤ 1000000) (hlh : b.length = nh) (hNh : oh + nh ≤ Nh) (hch : nh ≤ ch) (hzh : zh = true → nh = 0) (hnh : nh ≤ 1000000) (hcnt : 0 ≤ cnt ∧ cnt ≤ 900000000) :
    FnR Try.prog tds 34 2 [bts za Na oa na (L a), bts zh Nh oh nh (L b), tabs 1 0 boxes cnt, keyD 2 K, sealC 3 H] [.c (.p 4 0 0), nonA nn, .c (.sn za 0 0 oa na ca), .c (.sn zh 1 0 oh nh ch)] (fun _ => True)
      (fun x hs => ∃ c, nh + 16 ≤ c ∧ x = .a (.c (.sl 5 0 0 (nh + 16) c)) ∧ hs = [bts za Na oa na (L a), bts zh Nh oh nh (L b), tabs 1 0 boxes (cnt + ((nh + 15) / 16 : Nat) + 1), keyD 2 K, sealC 3 H, [.row c (bytesF (nh + 16) (L S))]]) := by
  refine fn_of_body tds_ok follows_ Try.func34 rfl (t := .a (.c (.p 4 0 0)) :: .a (nonA nn) :: .a (.c (.sn za 0 0 oa na ca)) :: .a (.c (.sn zh 1 0 oh nh ch)) :: anys 28) rfl (fun w r0 hr _ => ?_)
  obtain ⟨x0, x1, x2, x3, x4, rfl⟩ := len5' hr
  obtain ⟨C, hC⟩ : ∃ C, cryL E nn b = C := ⟨_, rfl⟩
  have hCl : C.length = nh := by rw [← hC, cryL_len, hlh]
  obtain ⟨T, hT⟩ : ∃ T, tagB E H nn a C = T := ⟨_, rfl⟩
  have hST : S = C ++ tab 16 T := by rw [← hS, sealL, hC, hT]
  refine ⟨rfl, ?_⟩
  (repeat first | refine ⟨fun _ => ?_, fun h => absurd h (by rw []; decide)⟩ | refine ⟨fun h => absurd h (by rw []; decide), fun _ => ?_⟩ | refine ⟨fun _ => ?_, fun h => Bool.noConfusion h⟩ | refine ⟨fun h => Bool.noConfusion h, fun _ => ?_⟩)
  (repeat first | refine And.intro (by omega) ?_ | refine And.intro (by decide) ?_ | (with_reducible refine frc_parts (by first | omega | decide) ?_) | (with_reducible refine frc_bytesL (by first | omega | decide) ?_) | refine And.intro rfl ?_)
  refine call_same (fn_crypt zh Nh oh nh ch b cnt key K E hK hE H nn hlh hNh hch hzh hnh (by omega)) [1, 2, 3, 4] rfl (by (repeat first | exact trivial | refine ⟨rfl, ?_⟩ | refine ⟨fun _ _ => ⟨rfl, trivial⟩, ?_⟩ | refine ⟨fun _ _ => trivial, ?_⟩ | refine ⟨by omega, ?_⟩ | refine ⟨fun _ _ => eqC_winS, ?_⟩ | refine ⟨fun _ _ => eqC_winM, ?_⟩ | refine ⟨fun _ _ => eqC_winB, ?_⟩ | refine ⟨fun _ _ => eqC_selfB, ?_⟩ | refine ⟨fun _ _ => eqC_mpB, ?_⟩)) ?_ (fun _ _ => trivial) ?_
  · refine eqC_bts ?_
    (repeat first | exact trivial | refine ⟨rfl, ?_⟩ | refine ⟨fun _ _ => ⟨rfl, trivial⟩, ?_⟩ | refine ⟨fun _ _ => trivial, ?_⟩ | refine ⟨by omega, ?_⟩ | refine ⟨fun _ _ => eqC_winS, ?_⟩ | refine ⟨fun _ _ => eqC_winM, ?_⟩ | refine ⟨fun _ _ => eqC_winB, ?_⟩ | refine ⟨fun _ _ => eqC_selfB, ?_⟩ | refine ⟨fun _ _ => eqC_mpB, ?_⟩)
  rintro x hs ⟨rfl, rfl⟩
  rw [hC]
  (repeat first | refine And.intro (by omega) ?_ | refine And.intro (by decide) ?_ | (with_reducible refine frc_parts (by first | omega | decide) ?_) | (with_reducible refine frc_bytesL (by first | omega | decide) ?_) | refine And.intro rfl ?_)
  refine call_same (fn_tag za false Na (nh + 16) oa 0 na nh ca (nh + 16) a C (cnt + ((nh + 15) / 16 : Nat)) key K E hK hE H nn hla hNa hca hza hna hCl (by omega) (by omega) (fun h => Bool.noConfusion h) hnh (by omega)) [0, 6, 2, 3, 4] rfl (by (repeat first | exact trivial | refine ⟨rfl, ?_⟩ | refine ⟨fun _ _ => ⟨rfl, trivial⟩, ?_⟩ | refine ⟨fun _ _ => trivial, ?_⟩ | refine ⟨by omega, ?_⟩ | refine ⟨fun _ _ => eqC_winS, ?_⟩ | refine ⟨fun _ _ => eqC_winM, ?_⟩ | refine ⟨fun _ _ => eqC_winB, ?_⟩ | refine ⟨fun _ _ => eqC_selfB, ?_⟩ | refine ⟨fun _ _ => eqC_mpB, ?_⟩)) ?_ (fun _ _ => trivial) ?_
  · refine eqC_bts ?_
    (repeat first | exact trivial | refine ⟨rfl, ?_⟩ | refine ⟨fun _ _ => ⟨rfl, trivial⟩, ?_⟩ | refine ⟨fun _ _ => trivial, ?_⟩ | refine ⟨by omega, ?_⟩ | refine ⟨fun _ _ => eqC_winS, ?_⟩ | refine ⟨fun _ _ => eqC_winM, ?_⟩ | refine ⟨fun _ _ => eqC_winB, ?_⟩ | refine ⟨fun _ _ => eqC_selfB, ?_⟩ | refine ⟨fun _ _ => eqC_mpB, ?_⟩)
    refine ⟨fun j hj => eqC_winBM (Nat.le_refl _), ?_⟩
    (repeat first | exact trivial | refine ⟨rfl, ?_⟩ | refine ⟨fun _ _ => ⟨rfl, trivial⟩, ?_⟩ | refine ⟨fun _ _ => trivial, ?_⟩ | refine ⟨by omega, ?_⟩ | refine ⟨fun _ _ => eqC_winS, ?_⟩ | refine ⟨fun _ _ => eqC_winM, ?_⟩ | refine ⟨fun _ _ => eqC_winB, ?_⟩ | refine ⟨fun _ _ => eqC_selfB, ?_⟩ | refine ⟨fun _ _ => eqC_mpB, ?_⟩)
  rintro x hs ⟨rfl, rfl⟩
  rw [hT]
  (repeat first | refine And.intro (by omega) ?_ | refine And.intro (by decide) ?_ | (with_reducible refine frc_parts (by first | omega | decide) ?_) | (with_reducible refine frc_bytesL (by first | omega | decide) ?_) | refine And.intro rfl ?_)
  refine ⟨⟨by omega, by simp only [scale]; omega, by show (nh + 16) * 1 ≤ 140737488355328; omega⟩, fun c' hc' => ?_⟩
  have hc'' : nh + 16 ≤ c' := hc'
  refine ⟨.a (.c (.sl 5 0 0 (nh + 16) c')), _, ⟨[0, 1, 2, 3, 4, 8], ⟨rfl, rfl, rfl⟩, ?_⟩, c', hc'', rfl, rfl⟩
  (repeat first | exact trivial | refine ⟨rfl, ?_⟩ | refine ⟨fun _ _ => ⟨rfl, trivial⟩, ?_⟩ | refine ⟨fun _ _ => trivial, ?_⟩ | refine ⟨by omega, ?_⟩ | refine ⟨fun _ _ => eqC_winS, ?_⟩ | refine ⟨fun _ _ => eqC_winM, ?_⟩ | refine ⟨fun _ _ => eqC_winB, ?_⟩ | refine ⟨fun _ _ => eqC_selfB, ?_⟩ | refine ⟨fun _ _ => eqC_mpB, ?_⟩)
  refine eqC_bts (eqC_bts ?_)
  (repeat first | exact trivial | refine ⟨rfl, ?_⟩ | refine ⟨fun _ _ => ⟨rfl, trivial⟩, ?_⟩ | refine ⟨fun _ _ => trivial, ?_⟩ | refine ⟨by omega, ?_⟩ | refine ⟨fun _ _ => eqC_winS, ?_⟩ | refine ⟨fun _ _ => eqC_winM, ?_⟩ | refine ⟨fun _ _ => eqC_winB, ?_⟩ | refine ⟨fun _ _ => eqC_selfB, ?_⟩ | refine ⟨fun _ _ => eqC_mpB, ?_⟩)
  refine ⟨fun j hj => eqC_bytes (fun i hi => ?_) j, trivial⟩
  rw [hST]
  refine app_row (l := C) (m := tab 16 T) hCl (tab_len _ _) (fun i hi => ?_) (fun i hi => ?_) i hi
  · show SC.mp _ (bytesF nh (L C) i) = _
    rw [bytesF_lt hi]
    rfl
  · rw [L_tab hi]
    rfl
end Sx
end Go.Proofs.Ytndlhhhebijknaa
end

section
/-
  The program's sealer: opened; made; nil ones. No condition.
-/
namespace Go.Proofs.Ytndlhhhebijknaa
set_option linter.unusedVariables false
namespace Gcm
open Sha
def wrB (S T : Nat → BitVec 8) : Nat → BitVec 8
  | 0 => 0#8
  | k + 1 => wrB S T k ||| (S k ^^^ T k)
theorem wrB_zero (S T : Nat → BitVec 8) : ∀ k, wrB S T k = 0#8 ↔ ∀ i, i < k → S i = T i
  | 0 => ⟨fun _ i h => absurd h (by omega), fun _ => rfl⟩
  | k + 1 => by
    simp only [wrB]
    rw [BitVec.or_eq_zero_iff, wrB_zero S T k]
    constructor
    · rintro ⟨h1, h2⟩ i hi
      by_cases h : i = k
      · subst h
        have := congrArg (· ^^^ T i) h2
        simpa [BitVec.xor_assoc] using this
      · exact h1 i (by omega)
    · intro h
      exact ⟨fun i hi => h i (by omega), by rw [h k (by omega), BitVec.xor_self]⟩
end Gcm
namespace Sx
open Aes Gcm Sha

set_option maxRecDepth 20000 in
theorem fn_gopen (za zh : Bool) (Na Nh oa oh na nh ca ch : Nat) (a b : Bs) (T : Nat → BitVec 8) (P : Bs) (cnt : Int) (key K : Nat → BitVec 8) (E : (Nat → BitVec 8) → Nat → BitVec 8) (hK : pKeys key = K) (hE : pTurn key = E) (H : Gcm.E) (nn : Nat → BitVec 8)
    (hT : tagB E H nn a (b.take (nh - 16)) = T) (hP : cryL E nn (b.take (nh - 16)) = P)
    (hla : a.length = na) (hNa : oa + na ≤ Na) (hca : na ≤ ca) (hza : za = true → na = 0) (hna : na ≤ 1000000) (hlh : b.length = nh) (hNh : oh + nh ≤ Nh) (hch : nh ≤ ch) (hzh : zh = true → nh = 0) (hnh : nh ≤ 1000000) (hcnt : 0 ≤ cnt ∧ cnt ≤ 900000000) :
    FnR Try.prog tds 37 2 [bts za Na oa na (L a), bts zh Nh oh nh (L b), tabs 1 0 boxes cnt, keyD 2 K, sealC 3 H] [.c (.p 4 0 0), nonA nn, .c (.sn za 0 0 oa na ca), .c (.sn zh 1 0 oh nh ch)] (fun _ => True)
      (fun x hs => (nh < 16 → x = .tup [.c (.slc none 0 0), .c (.int .i64 3)] ∧ hs = [bts za Na oa na (L a), bts zh Nh oh nh (L b), tabs 1 0 boxes cnt, keyD 2 K, sealC 3 H]) ∧
        (16 ≤ nh → (∀ i, i < 16 → L b (nh - 16 + i) = T i) → x = .tup [.c (.sl 5 0 0 (nh - 16) nh), .c (.int .i64 0)] ∧ hs = [bts za Na oa na (L a), bts zh Nh oh nh (L b), tabs 1 0 boxes (cnt + 1 + ((nh - 1) / 16 : Nat)), keyD 2 K, sealC 3 H, [.row nh (bytesF (nh - 16) (L P))]]) ∧
        (16 ≤ nh → (¬ ∀ i, i < 16 → L b (nh - 16 + i) = T i) → x = .tup [.c (.slc none 0 0), .c (.int .i64 8)] ∧ hs = [bts za Na oa na (L a), bts zh Nh oh nh (L b), tabs 1 0 boxes (cnt + 1), keyD 2 K, sealC 3 H])) := by
  refine fn_of_body tds_ok follows_ Try.func37 rfl (t := .a (.c (.p 4 0 0)) :: .a (nonA nn) :: .a (.c (.sn za 0 0 oa na ca)) :: .a (.c (.sn zh 1 0 oh nh ch)) :: anys 57) rfl (fun w r0 hr _ => ?_)
  obtain ⟨x0, x1, x2, x3, x4, rfl⟩ := len5' hr
  refine ⟨rfl, ?_⟩
  (repeat first | refine ⟨fun _ => ?_, fun h => absurd h (by rw []; decide)⟩ | refine ⟨fun h => absurd h (by rw []; decide), fun _ => ?_⟩ | refine ⟨fun _ => ?_, fun h => Bool.noConfusion h⟩ | refine ⟨fun h => Bool.noConfusion h, fun _ => ?_⟩)
  by_cases h16 : nh < 16
  · have e0 : decide ((nh : Int) < 16) = true := decide_eq_true (by omega)
    (repeat first | refine ⟨fun _ => ?_, fun h => absurd h (by rw [e0]; decide)⟩ | refine ⟨fun h => absurd h (by rw [e0]; decide), fun _ => ?_⟩ | refine ⟨fun _ => ?_, fun h => Bool.noConfusion h⟩ | refine ⟨fun h => Bool.noConfusion h, fun _ => ?_⟩)
    refine ⟨.tup [.c (.slc none 0 0), .c (.int .i64 3)], _, ⟨[0, 1, 2, 3, 4], ⟨rfl, rfl, rfl⟩, ?_⟩, fun _ => ⟨rfl, rfl⟩, fun h => absurd h (by omega), fun h => absurd h (by omega)⟩
    (repeat first | exact trivial | refine ⟨rfl, ?_⟩ | refine ⟨fun _ _ => ⟨rfl, trivial⟩, ?_⟩ | refine ⟨fun _ _ => trivial, ?_⟩ | refine ⟨by omega, ?_⟩ | refine ⟨fun _ _ => eqC_winS, ?_⟩ | refine ⟨fun _ _ => eqC_winM, ?_⟩ | refine ⟨fun _ _ => eqC_winB, ?_⟩ | refine ⟨fun _ _ => eqC_selfB, ?_⟩ | refine ⟨fun _ _ => eqC_mpB, ?_⟩)
    refine eqC_bts (eqC_bts ?_)
    (repeat first | exact trivial | refine ⟨rfl, ?_⟩ | refine ⟨fun _ _ => ⟨rfl, trivial⟩, ?_⟩ | refine ⟨fun _ _ => trivial, ?_⟩ | refine ⟨by omega, ?_⟩ | refine ⟨fun _ _ => eqC_winS, ?_⟩ | refine ⟨fun _ _ => eqC_winM, ?_⟩ | refine ⟨fun _ _ => eqC_winB, ?_⟩ | refine ⟨fun _ _ => eqC_selfB, ?_⟩ | refine ⟨fun _ _ => eqC_mpB, ?_⟩)
  have e0 : decide ((nh : Int) < 16) = false := decide_eq_false (by omega)
  (repeat first | refine ⟨fun _ => ?_, fun h => absurd h (by rw [e0]; decide)⟩ | refine ⟨fun h => absurd h (by rw [e0]; decide), fun _ => ?_⟩ | refine ⟨fun _ => ?_, fun h => Bool.noConfusion h⟩ | refine ⟨fun h => Bool.noConfusion h, fun _ => ?_⟩)
  obtain rfl : zh = false := by cases zh; rfl; have := hzh rfl; omega
  have hbl : (b.take (nh - 16)).length = nh - 16 := by rw [List.length_take]; omega
  have e1 : ((nh : Int) - 16).toNat = nh - 16 := by omega
  refine ⟨⟨by omega, by omega⟩, ⟨by omega, by omega, by omega⟩, ?_⟩
  have e2 : (if ch = 0 then oh else oh + 0 * 1) = oh := by split <;> omega
  refine frcN_of (m := 0) rfl ?_
  refine frcN_of e1 ?_
  refine frcN_of e2 ?_
  refine frcN_of (m := nh - 16) (by omega) ?_
  refine frcN_of (m := ch) (by omega) ?_
  (repeat first | refine And.intro (by omega) ?_ | refine And.intro (by decide) ?_ | (with_reducible refine frc_parts (by first | omega | decide) ?_) | (with_reducible refine frc_bytesL (by first | omega | decide) ?_) | refine And.intro rfl ?_)
  refine call_same (fn_tag za false Na Nh oa oh na (nh - 16) ca ch a (b.take (nh - 16)) cnt key K E hK hE H nn hla hNa hca hza hna hbl (by omega) (by omega) (fun h => Bool.noConfusion h) (by omega) (by omega)) [0, 1, 2, 3, 4] rfl (by (repeat first | exact trivial | refine ⟨rfl, ?_⟩ | refine ⟨fun _ _ => ⟨rfl, trivial⟩, ?_⟩ | refine ⟨fun _ _ => trivial, ?_⟩ | refine ⟨by omega, ?_⟩ | refine ⟨fun _ _ => eqC_winS, ?_⟩ | refine ⟨fun _ _ => eqC_winM, ?_⟩ | refine ⟨fun _ _ => eqC_winB, ?_⟩ | refine ⟨fun _ _ => eqC_selfB, ?_⟩ | refine ⟨fun _ _ => eqC_mpB, ?_⟩)) ?_ (fun _ _ => trivial) ?_
  · refine eqC_bts ?_
    refine ⟨rfl, fun j hj => eqC_win (fun i hi => ?_) j, ?_⟩
    · rw [winF_at _ _ _ (by omega), L_take _ _ _ hi]
    (repeat first | exact trivial | refine ⟨rfl, ?_⟩ | refine ⟨fun _ _ => ⟨rfl, trivial⟩, ?_⟩ | refine ⟨fun _ _ => trivial, ?_⟩ | refine ⟨by omega, ?_⟩ | refine ⟨fun _ _ => eqC_winS, ?_⟩ | refine ⟨fun _ _ => eqC_winM, ?_⟩ | refine ⟨fun _ _ => eqC_winB, ?_⟩ | refine ⟨fun _ _ => eqC_selfB, ?_⟩ | refine ⟨fun _ _ => eqC_mpB, ?_⟩)
  rintro x hs ⟨rfl, rfl⟩
  rw [hT]
  (repeat first | refine And.intro (by omega) ?_ | refine And.intro (by decide) ?_ | (with_reducible refine frc_parts (by first | omega | decide) ?_) | (with_reducible refine frc_bytesL (by first | omega | decide) ?_) | refine And.intro rfl ?_)
  have e3 : ((nh - 16 : Nat) : Int).toNat = nh - 16 := by omega
  have e4 : ((nh : Nat) : Int).toNat = nh := by omega
  have e5 : (if ch = nh - 16 then oh else oh + (nh - 16) * 1) = oh + (nh - 16) := by rw [if_neg (by omega)]; omega
  refine frcN_of e3 ?_
  refine frcN_of e4 ?_
  refine frcN_of e5 ?_
  refine frcN_of (m := 16) (by omega) ?_
  refine frcN_of (m := ch - (nh - 16)) rfl ?_
  refine .inl ⟨Nat, fun k => ⟨[.a (.c (.p 4 0 0)), .any, .any, .any, .any, .a (.c (.p 5 0 0)), .any, .any, .any, .any, .a (.c (.sn false 1 0 oh (nh - 16) ch)), .a (.c (.p 6 0 0)), .a (.c (.w8 ((wrB (fun i => L b (nh - 16 + i)) T k)))), .any, .any, .any, .any, .any, .any, .any, .any, .any, .any, .any, .any, .any, .any, .any, .any, .any, .any, .any, .any, .any, .any, .any, .any, .any, .any, .any, .a (.c (.sn false 1 0 (oh + (nh - 16)) 16 (ch - (nh - 16)))), .a (.c (.int .i64 (16))), .a (.c (.int .i64 (↑k))), .any, .any, .any, .any, .any, .any, .any, .any, .any, .any, .any, .any, .any, .any, .any, .any, .any, .any], [bts za Na oa na (L a), bts false Nh oh nh (L b), tabs 1 0 boxes (cnt + 1), keyD 2 K, sealC 3 H, [.row 12 fun i => .w8 (nn i)], [.row 16 fun i => .w8 (T i)]]⟩, fun k => k ≤ 16, fun k => 16 - k, ⟨0, [0, 1, 2, 3, 4, 5, 6], ⟨⟨rfl, rfl, rfl⟩, ?_⟩, by omega⟩, fun k hk => ⟨fun h => ?_, fun h => ?_⟩⟩
  · (repeat first | exact trivial | refine ⟨rfl, ?_⟩ | refine ⟨fun _ _ => ⟨rfl, trivial⟩, ?_⟩ | refine ⟨fun _ _ => trivial, ?_⟩ | refine ⟨by omega, ?_⟩ | refine ⟨fun _ _ => eqC_winS, ?_⟩ | refine ⟨fun _ _ => eqC_winM, ?_⟩ | refine ⟨fun _ _ => eqC_winB, ?_⟩ | refine ⟨fun _ _ => eqC_selfB, ?_⟩ | refine ⟨fun _ _ => eqC_mpB, ?_⟩)
    refine eqC_bts ?_
    (repeat first | exact trivial | refine ⟨rfl, ?_⟩ | refine ⟨fun _ _ => ⟨rfl, trivial⟩, ?_⟩ | refine ⟨fun _ _ => trivial, ?_⟩ | refine ⟨by omega, ?_⟩ | refine ⟨fun _ _ => eqC_winS, ?_⟩ | refine ⟨fun _ _ => eqC_winM, ?_⟩ | refine ⟨fun _ _ => eqC_winB, ?_⟩ | refine ⟨fun _ _ => eqC_selfB, ?_⟩ | refine ⟨fun _ _ => eqC_mpB, ?_⟩)
  · have hlt : (k : Int) < 16 := of_decide_eq_true h
    have hk1 : k < 16 := by omega
    have e6 : (k : Int).toNat + (oh + (nh - 16)) = nh - 16 + k + oh := by omega
    have e7 : (k : Int).toNat + 0 = k := by omega
    (repeat first | refine And.intro (by omega) ?_ | refine And.intro (by decide) ?_ | (with_reducible refine frc_parts (by first | omega | decide) ?_) | (with_reducible refine frc_bytesL (by first | omega | decide) ?_) | refine And.intro rfl ?_)
    rw [e6]
    refine frc_win (i := nh - 16 + k) (by omega) ?_
    (repeat first | refine And.intro (by omega) ?_ | refine And.intro (by decide) ?_ | (with_reducible refine frc_parts (by first | omega | decide) ?_) | (with_reducible refine frc_bytesL (by first | omega | decide) ?_) | refine And.intro rfl ?_)
    refine ⟨k + 1, [0, 1, 2, 3, 4, 5, 6], ⟨⟨rfl, rfl, rfl⟩, ?_⟩, by dsimp only; omega, by dsimp only; omega⟩
    (repeat first | exact trivial | refine ⟨rfl, ?_⟩ | refine ⟨fun _ _ => ⟨rfl, trivial⟩, ?_⟩ | refine ⟨fun _ _ => trivial, ?_⟩ | refine ⟨by omega, ?_⟩ | refine ⟨fun _ _ => eqC_winS, ?_⟩ | refine ⟨fun _ _ => eqC_winM, ?_⟩ | refine ⟨fun _ _ => eqC_winB, ?_⟩ | refine ⟨fun _ _ => eqC_selfB, ?_⟩ | refine ⟨fun _ _ => eqC_mpB, ?_⟩)
    refine eqC_bts ?_
    (repeat first | exact trivial | refine ⟨rfl, ?_⟩ | refine ⟨fun _ _ => ⟨rfl, trivial⟩, ?_⟩ | refine ⟨fun _ _ => trivial, ?_⟩ | refine ⟨by omega, ?_⟩ | refine ⟨fun _ _ => eqC_winS, ?_⟩ | refine ⟨fun _ _ => eqC_winM, ?_⟩ | refine ⟨fun _ _ => eqC_winB, ?_⟩ | refine ⟨fun _ _ => eqC_selfB, ?_⟩ | refine ⟨fun _ _ => eqC_mpB, ?_⟩)
  · obtain rfl : k = 16 := by have : ¬ (k : Int) < 16 := of_decide_eq_false h; have hk : k ≤ 16 := hk; omega
    have hw := wrB_zero (fun i => L b (nh - 16 + i)) T 16
    by_cases hall : ∀ i, i < 16 → L b (nh - 16 + i) = T i
    · have e8 : decide (wrB (fun i => L b (nh - 16 + i)) T 16 ≠ 0#8) = false := decide_eq_false (fun h => h (hw.2 hall))
      (repeat first | refine ⟨fun _ => ?_, fun h => absurd h (by rw [e8]; decide)⟩ | refine ⟨fun h => absurd h (by rw [e8]; decide), fun _ => ?_⟩ | refine ⟨fun _ => ?_, fun h => Bool.noConfusion h⟩ | refine ⟨fun h => Bool.noConfusion h, fun _ => ?_⟩)
      (repeat first | refine And.intro (by omega) ?_ | refine And.intro (by decide) ?_ | (with_reducible refine frc_parts (by first | omega | decide) ?_) | (with_reducible refine frc_bytesL (by first | omega | decide) ?_) | refine And.intro rfl ?_)
      refine call_same (fn_crypt false Nh oh (nh - 16) ch (b.take (nh - 16)) (cnt + 1) key K E hK hE H nn hbl (by omega) (by omega) (fun h => Bool.noConfusion h) (by omega) (by omega)) [1, 2, 3, 4] rfl (by (repeat first | exact trivial | refine ⟨rfl, ?_⟩ | refine ⟨fun _ _ => ⟨rfl, trivial⟩, ?_⟩ | refine ⟨fun _ _ => trivial, ?_⟩ | refine ⟨by omega, ?_⟩ | refine ⟨fun _ _ => eqC_winS, ?_⟩ | refine ⟨fun _ _ => eqC_winM, ?_⟩ | refine ⟨fun _ _ => eqC_winB, ?_⟩ | refine ⟨fun _ _ => eqC_selfB, ?_⟩ | refine ⟨fun _ _ => eqC_mpB, ?_⟩)) ?_ (fun _ _ => trivial) ?_
      · refine ⟨rfl, fun j hj => eqC_win (fun i hi => ?_) j, ?_⟩
        · rw [winF_at _ _ _ (by omega), L_take _ _ _ hi]
        (repeat first | exact trivial | refine ⟨rfl, ?_⟩ | refine ⟨fun _ _ => ⟨rfl, trivial⟩, ?_⟩ | refine ⟨fun _ _ => trivial, ?_⟩ | refine ⟨by omega, ?_⟩ | refine ⟨fun _ _ => eqC_winS, ?_⟩ | refine ⟨fun _ _ => eqC_winM, ?_⟩ | refine ⟨fun _ _ => eqC_winB, ?_⟩ | refine ⟨fun _ _ => eqC_selfB, ?_⟩ | refine ⟨fun _ _ => eqC_mpB, ?_⟩)
      rintro x hs ⟨rfl, rfl⟩
      rw [hP]
      refine ⟨.tup [.c (.sl 5 0 0 (nh - 16) nh), .c (.int .i64 0)], [bts za Na oa na (L a), bts false Nh oh nh (L b), tabs 1 0 boxes (cnt + 1 + ((nh - 1) / 16 : Nat)), keyD 2 K, sealC 3 H, [.row nh (bytesF (nh - 16) (L P))]], ⟨[0, 1, 2, 3, 4, 7], ⟨rfl, rfl, rfl⟩, ?_⟩, fun h => absurd h (by omega), fun _ _ => ⟨rfl, rfl⟩, fun _ h => absurd hall h⟩
      refine ⟨rfl, rfl, by omega, rfl, ?_⟩
      refine eqC_bts ?_
      (repeat first | exact trivial | refine ⟨rfl, ?_⟩ | refine ⟨fun _ _ => ⟨rfl, trivial⟩, ?_⟩ | refine ⟨fun _ _ => trivial, ?_⟩ | refine ⟨by omega, ?_⟩ | refine ⟨fun _ _ => eqC_winS, ?_⟩ | refine ⟨fun _ _ => eqC_winM, ?_⟩ | refine ⟨fun _ _ => eqC_winB, ?_⟩ | refine ⟨fun _ _ => eqC_selfB, ?_⟩ | refine ⟨fun _ _ => eqC_mpB, ?_⟩)
    · have e8 : decide (wrB (fun i => L b (nh - 16 + i)) T 16 ≠ 0#8) = true := decide_eq_true (mt hw.1 hall)
      (repeat first | refine ⟨fun _ => ?_, fun h => absurd h (by rw [e8]; decide)⟩ | refine ⟨fun h => absurd h (by rw [e8]; decide), fun _ => ?_⟩ | refine ⟨fun _ => ?_, fun h => Bool.noConfusion h⟩ | refine ⟨fun h => Bool.noConfusion h, fun _ => ?_⟩)
      refine ⟨.tup [.c (.slc none 0 0), .c (.int .i64 8)], _, ⟨[0, 1, 2, 3, 4], ⟨rfl, rfl, rfl⟩, ?_⟩, fun h => absurd h (by omega), fun _ h => absurd h hall, fun _ _ => ⟨rfl, rfl⟩⟩
      (repeat first | exact trivial | refine ⟨rfl, ?_⟩ | refine ⟨fun _ _ => ⟨rfl, trivial⟩, ?_⟩ | refine ⟨fun _ _ => trivial, ?_⟩ | refine ⟨by omega, ?_⟩ | refine ⟨fun _ _ => eqC_winS, ?_⟩ | refine ⟨fun _ _ => eqC_winM, ?_⟩ | refine ⟨fun _ _ => eqC_winB, ?_⟩ | refine ⟨fun _ _ => eqC_selfB, ?_⟩ | refine ⟨fun _ _ => eqC_mpB, ?_⟩)
      refine eqC_bts ?_
      (repeat first | exact trivial | refine ⟨rfl, ?_⟩ | refine ⟨fun _ _ => ⟨rfl, trivial⟩, ?_⟩ | refine ⟨fun _ _ => trivial, ?_⟩ | refine ⟨by omega, ?_⟩ | refine ⟨fun _ _ => eqC_winS, ?_⟩ | refine ⟨fun _ _ => eqC_winM, ?_⟩ | refine ⟨fun _ _ => eqC_winB, ?_⟩ | refine ⟨fun _ _ => eqC_selfB, ?_⟩ | refine ⟨fun _ _ => eqC_mpB, ?_⟩)
set_option maxRecDepth 20000 in
theorem fn_gnew (d : BitVec 32) (b : Nat → BitVec 8) (cnt : Int) (key K : Nat → BitVec 8) (E : (Nat → BitVec 8) → Nat → BitVec 8) (hK : pKeys key = K) (hE : pTurn key = E) (H : Gcm.E) (hH : toE (E fun _ => 0#8) = H) (hd : d = 0#32 ∨ d = 1#32 ∧ b = boxes) (hcnt : 0 ≤ cnt ∧ cnt ≤ 1000000000) :
    Fn Try.prog tds 32 [tabs d 0 b cnt] [.c (.p 0 0 0), blk key] (fun _ => True) (fun x hs => x = .a (.c (.p 2 0 0)) ∧ hs = [tabs 1 0 boxes (cnt + 1), keyC K, sealC 1 H]) := by
  refine fn_of_body tds_ok follows_ Try.func32 rfl (t := .a (.c (.p 0 0 0)) :: .a (blk key) :: anys 16) rfl (fun w r0 hr _ => ?_)
  obtain ⟨x0, rfl⟩ := List.length_eq_one_iff.1 hr
  refine ⟨rfl, ?_⟩
  (repeat first | refine And.intro (by omega) ?_ | refine And.intro (by decide) ?_ | (with_reducible refine frc_parts (by first | omega | decide) ?_) | (with_reducible refine frc_bytesL (by first | omega | decide) ?_) | refine And.intro rfl ?_)
  refine call_same (fn_key' d b cnt key K hK hd) [0] rfl (by (repeat first | exact trivial | refine ⟨rfl, ?_⟩ | refine ⟨fun _ _ => ⟨rfl, trivial⟩, ?_⟩ | refine ⟨fun _ _ => trivial, ?_⟩ | refine ⟨by omega, ?_⟩ | refine ⟨fun _ _ => eqC_winS, ?_⟩ | refine ⟨fun _ _ => eqC_winM, ?_⟩ | refine ⟨fun _ _ => eqC_winB, ?_⟩ | refine ⟨fun _ _ => eqC_selfB, ?_⟩ | refine ⟨fun _ _ => eqC_mpB, ?_⟩)) (by (repeat first | exact trivial | refine ⟨rfl, ?_⟩ | refine ⟨fun _ _ => ⟨rfl, trivial⟩, ?_⟩ | refine ⟨fun _ _ => trivial, ?_⟩ | refine ⟨by omega, ?_⟩ | refine ⟨fun _ _ => eqC_winS, ?_⟩ | refine ⟨fun _ _ => eqC_winM, ?_⟩ | refine ⟨fun _ _ => eqC_winB, ?_⟩ | refine ⟨fun _ _ => eqC_selfB, ?_⟩ | refine ⟨fun _ _ => eqC_mpB, ?_⟩)) (fun _ _ => trivial) ?_
  rintro x hs ⟨rfl, rfl⟩
  (repeat first | refine ⟨fun _ => ?_, fun h => absurd h (by rw []; decide)⟩ | refine ⟨fun h => absurd h (by rw []; decide), fun _ => ?_⟩ | refine ⟨fun _ => ?_, fun h => Bool.noConfusion h⟩ | refine ⟨fun h => Bool.noConfusion h, fun _ => ?_⟩)
  (repeat first | refine And.intro (by omega) ?_ | refine And.intro (by decide) ?_ | (with_reducible refine frc_parts (by first | omega | decide) ?_) | (with_reducible refine frc_bytesL (by first | omega | decide) ?_) | refine And.intro rfl ?_)
  refine call_same (fn_turn' cnt key (fun _ => 0#8) K (E fun _ => 0#8) hK (by rw [hE]) (by omega)) [0, 2] rfl ⟨rfl, rfl, rfl, fun j hj => eqC_w8 (nthC_rep (n := 16) (x := .w8 0) hj), trivial⟩ (by (repeat first | exact trivial | refine ⟨rfl, ?_⟩ | refine ⟨fun _ _ => ⟨rfl, trivial⟩, ?_⟩ | refine ⟨fun _ _ => trivial, ?_⟩ | refine ⟨by omega, ?_⟩ | refine ⟨fun _ _ => eqC_winS, ?_⟩ | refine ⟨fun _ _ => eqC_winM, ?_⟩ | refine ⟨fun _ _ => eqC_winB, ?_⟩ | refine ⟨fun _ _ => eqC_selfB, ?_⟩ | refine ⟨fun _ _ => eqC_mpB, ?_⟩)) (fun _ _ => trivial) ?_
  rintro x hs ⟨rfl, rfl⟩
  (repeat first | refine And.intro (by omega) ?_ | refine And.intro (by decide) ?_ | (with_reducible refine frc_parts (by first | omega | decide) ?_) | (with_reducible refine frc_bytesL (by first | omega | decide) ?_) | refine And.intro rfl ?_)
  refine call_same (fn_load (E fun _ => 0#8)) [] rfl (by (repeat first | exact trivial | refine ⟨rfl, ?_⟩ | refine ⟨fun _ _ => ⟨rfl, trivial⟩, ?_⟩ | refine ⟨fun _ _ => trivial, ?_⟩ | refine ⟨by omega, ?_⟩ | refine ⟨fun _ _ => eqC_winS, ?_⟩ | refine ⟨fun _ _ => eqC_winM, ?_⟩ | refine ⟨fun _ _ => eqC_winB, ?_⟩ | refine ⟨fun _ _ => eqC_selfB, ?_⟩ | refine ⟨fun _ _ => eqC_mpB, ?_⟩)) trivial (fun _ _ => trivial) ?_
  rintro x hs ⟨rfl, rfl⟩
  rw [hH]
  (repeat first | refine And.intro (by omega) ?_ | refine And.intro (by decide) ?_ | (with_reducible refine frc_parts (by first | omega | decide) ?_) | (with_reducible refine frc_bytesL (by first | omega | decide) ?_) | refine And.intro rfl ?_)
  refine ⟨.a (.c (.p 2 0 0)), [tabs 1 0 boxes (cnt + 1), keyC K, sealC 1 H], ⟨[0, 2, 3], ⟨rfl, rfl, rfl⟩, ?_⟩, rfl, rfl⟩
  (repeat first | exact trivial | refine ⟨rfl, ?_⟩ | refine ⟨fun _ _ => ⟨rfl, trivial⟩, ?_⟩ | refine ⟨fun _ _ => trivial, ?_⟩ | refine ⟨by omega, ?_⟩ | refine ⟨fun _ _ => eqC_winS, ?_⟩ | refine ⟨fun _ _ => eqC_winM, ?_⟩ | refine ⟨fun _ _ => eqC_winB, ?_⟩ | refine ⟨fun _ _ => eqC_selfB, ?_⟩ | refine ⟨fun _ _ => eqC_mpB, ?_⟩)
set_option maxRecDepth 20000 in
theorem fn_gnew_nil (key : Nat → BitVec 8) : Fn Try.prog tds 32 [] [.c (.ptr none), blk key] (fun _ => True) (fun x hs => x = .a (.c (.ptr none)) ∧ hs = []) := by
  refine fn_of_body tds_ok follows_ Try.func32 rfl (t := .a (.c (.ptr none)) :: .a (blk key) :: anys 16) rfl (fun w r0 hr _ => ?_)
  obtain rfl : r0 = [] := List.eq_nil_of_length_eq_zero hr
  refine ⟨rfl, ?_⟩
  (repeat first | refine And.intro (by omega) ?_ | refine And.intro (by decide) ?_ | (with_reducible refine frc_parts (by first | omega | decide) ?_) | (with_reducible refine frc_bytesL (by first | omega | decide) ?_) | refine And.intro rfl ?_)
  refine call_same (fn_key_nil key) [] rfl (by (repeat first | exact trivial | refine ⟨rfl, ?_⟩ | refine ⟨fun _ _ => ⟨rfl, trivial⟩, ?_⟩ | refine ⟨fun _ _ => trivial, ?_⟩ | refine ⟨by omega, ?_⟩ | refine ⟨fun _ _ => eqC_winS, ?_⟩ | refine ⟨fun _ _ => eqC_winM, ?_⟩ | refine ⟨fun _ _ => eqC_winB, ?_⟩ | refine ⟨fun _ _ => eqC_selfB, ?_⟩ | refine ⟨fun _ _ => eqC_mpB, ?_⟩)) trivial (fun _ _ => trivial) ?_
  rintro x hs ⟨rfl, rfl⟩
  (repeat first | refine ⟨fun _ => ?_, fun h => absurd h (by rw []; decide)⟩ | refine ⟨fun h => absurd h (by rw []; decide), fun _ => ?_⟩ | refine ⟨fun _ => ?_, fun h => Bool.noConfusion h⟩ | refine ⟨fun h => Bool.noConfusion h, fun _ => ?_⟩)
  exact ⟨.a (.c (.ptr none)), [], ⟨[], ⟨rfl, rfl, rfl⟩, rfl, trivial⟩, rfl, rfl⟩
theorem fn_gseal_nil (za zh : Bool) (Na Nh oa oh na nh ca ch : Nat) (a b : Nat → BitVec 8) (nn : Nat → BitVec 8) :
    FnR Try.prog tds 34 2 [bts za Na oa na a, bts zh Nh oh nh b] [.c (.ptr none), nonA nn, .c (.sn za 0 0 oa na ca), .c (.sn zh 1 0 oh nh ch)] (fun _ => True)
      (fun x hs => x = .a (.c (.slc none 0 0)) ∧ hs = [bts za Na oa na a, bts zh Nh oh nh b]) := by
  refine fn_of_body tds_ok follows_ Try.func34 rfl (t := .a (.c (.ptr none)) :: .a (nonA nn) :: .a (.c (.sn za 0 0 oa na ca)) :: .a (.c (.sn zh 1 0 oh nh ch)) :: anys 28) rfl (fun w r0 hr _ => ?_)
  obtain ⟨x0, x1, rfl⟩ := len2s hr
  refine ⟨rfl, ?_⟩
  (repeat first | refine ⟨fun _ => ?_, fun h => absurd h (by rw []; decide)⟩ | refine ⟨fun h => absurd h (by rw []; decide), fun _ => ?_⟩ | refine ⟨fun _ => ?_, fun h => Bool.noConfusion h⟩ | refine ⟨fun h => Bool.noConfusion h, fun _ => ?_⟩)
  refine ⟨.a (.c (.slc none 0 0)), _, ⟨[0, 1], ⟨rfl, rfl, rfl⟩, ?_⟩, rfl, rfl⟩
  (repeat first | exact trivial | refine ⟨rfl, ?_⟩ | refine ⟨fun _ _ => ⟨rfl, trivial⟩, ?_⟩ | refine ⟨fun _ _ => trivial, ?_⟩ | refine ⟨by omega, ?_⟩ | refine ⟨fun _ _ => eqC_winS, ?_⟩ | refine ⟨fun _ _ => eqC_winM, ?_⟩ | refine ⟨fun _ _ => eqC_winB, ?_⟩ | refine ⟨fun _ _ => eqC_selfB, ?_⟩ | refine ⟨fun _ _ => eqC_mpB, ?_⟩)
  refine eqC_bts (eqC_bts ?_)
  (repeat first | exact trivial | refine ⟨rfl, ?_⟩ | refine ⟨fun _ _ => ⟨rfl, trivial⟩, ?_⟩ | refine ⟨fun _ _ => trivial, ?_⟩ | refine ⟨by omega, ?_⟩ | refine ⟨fun _ _ => eqC_winS, ?_⟩ | refine ⟨fun _ _ => eqC_winM, ?_⟩ | refine ⟨fun _ _ => eqC_winB, ?_⟩ | refine ⟨fun _ _ => eqC_selfB, ?_⟩ | refine ⟨fun _ _ => eqC_mpB, ?_⟩)
theorem fn_gopen_nil (za zh : Bool) (Na Nh oa oh na nh ca ch : Nat) (a b : Nat → BitVec 8) (nn : Nat → BitVec 8) :
    FnR Try.prog tds 37 2 [bts za Na oa na a, bts zh Nh oh nh b] [.c (.ptr none), nonA nn, .c (.sn za 0 0 oa na ca), .c (.sn zh 1 0 oh nh ch)] (fun _ => True)
      (fun x hs => x = .tup [.c (.slc none 0 0), .c (.int .i64 1)] ∧ hs = [bts za Na oa na a, bts zh Nh oh nh b]) := by
  refine fn_of_body tds_ok follows_ Try.func37 rfl (t := .a (.c (.ptr none)) :: .a (nonA nn) :: .a (.c (.sn za 0 0 oa na ca)) :: .a (.c (.sn zh 1 0 oh nh ch)) :: anys 57) rfl (fun w r0 hr _ => ?_)
  obtain ⟨x0, x1, rfl⟩ := len2s hr
  refine ⟨rfl, ?_⟩
  (repeat first | refine ⟨fun _ => ?_, fun h => absurd h (by rw []; decide)⟩ | refine ⟨fun h => absurd h (by rw []; decide), fun _ => ?_⟩ | refine ⟨fun _ => ?_, fun h => Bool.noConfusion h⟩ | refine ⟨fun h => Bool.noConfusion h, fun _ => ?_⟩)
  refine ⟨.tup [.c (.slc none 0 0), .c (.int .i64 1)], _, ⟨[0, 1], ⟨rfl, rfl, rfl⟩, ?_⟩, rfl, rfl⟩
  (repeat first | exact trivial | refine ⟨rfl, ?_⟩ | refine ⟨fun _ _ => ⟨rfl, trivial⟩, ?_⟩ | refine ⟨fun _ _ => trivial, ?_⟩ | refine ⟨by omega, ?_⟩ | refine ⟨fun _ _ => eqC_winS, ?_⟩ | refine ⟨fun _ _ => eqC_winM, ?_⟩ | refine ⟨fun _ _ => eqC_winB, ?_⟩ | refine ⟨fun _ _ => eqC_selfB, ?_⟩ | refine ⟨fun _ _ => eqC_mpB, ?_⟩)
  refine eqC_bts (eqC_bts ?_)
  (repeat first | exact trivial | refine ⟨rfl, ?_⟩ | refine ⟨fun _ _ => ⟨rfl, trivial⟩, ?_⟩ | refine ⟨fun _ _ => trivial, ?_⟩ | refine ⟨by omega, ?_⟩ | refine ⟨fun _ _ => eqC_winS, ?_⟩ | refine ⟨fun _ _ => eqC_winM, ?_⟩ | refine ⟨fun _ _ => eqC_winB, ?_⟩ | refine ⟨fun _ _ => eqC_selfB, ?_⟩ | refine ⟨fun _ _ => eqC_mpB, ?_⟩)
end Sx
end Go.Proofs.Ytndlhhhebijknaa
end
