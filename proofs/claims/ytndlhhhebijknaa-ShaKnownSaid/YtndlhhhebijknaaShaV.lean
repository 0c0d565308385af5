/-
  SHA-256 reckoned by the kernel: the same sums, each word made whole before it is used. Plain. No condition.
-/
import Derived.Test.YtndlhhhebijknaaShaQ
namespace Go.Proofs.Ytndlhhhebijknaa
set_option linter.unusedVariables false
namespace Sha
section
variable {α : Sort _}
def frcE (n : Nat) (k : Nat → α) : α := match n with
  | 0 => k 0
  | m + 1 => k (m + 1)
theorem frcE_eq (n : Nat) (k : Nat → α) : frcE n k = k n := by cases n <;> rfl
def frcW (x : BitVec 32) (k : BitVec 32 → α) : α := frcE x.toNat fun n => k (BitVec.ofNat 32 n)
theorem frcW_eq (x : BitVec 32) (k : BitVec 32 → α) : frcW x k = k x := by unfold frcW; rw [frcE_eq, BitVec.ofNat_toNat, BitVec.setWidth_eq]
def frc8 (x : BitVec 8) (k : BitVec 8 → α) : α := frcE x.toNat fun n => k (BitVec.ofNat 8 n)
theorem frc8_eq (x : BitVec 8) (k : BitVec 8 → α) : frc8 x k = k x := by unfold frc8; rw [frcE_eq, BitVec.ofNat_toNat, BitVec.setWidth_eq]
/-- n bytes, each made whole. -/
def tabK (b : Nat → BitVec 8) : Nat → Nat → (Bs → α) → α
  | 0, _, k => k []
  | n + 1, i, k => frc8 (b i) fun x => tabK b n (i + 1) fun l => k (x :: l)
theorem tabK_eq' (b : Nat → BitVec 8) : ∀ (n i : Nat) (k : Bs → α), tabK b n i k = k (tab n fun j => b (i + j))
  | 0, _, _ => rfl
  | n + 1, i, k => by
    simp only [tabK]
    rw [frc8_eq, tabK_eq']
    congr 1
    unfold tab
    rw [List.range_succ_eq_map]
    simp only [List.map_cons, Nat.add_zero, List.map_map, Function.comp_def]
    congr 1
    apply List.map_congr_left
    intro j _
    congr 1; omega
theorem tabK_eq (b : Nat → BitVec 8) (n : Nat) (k : Bs → α) : tabK b n 0 k = k (tab n b) := by rw [tabK_eq']; simp
/-- The first sixteen words, the newest first. -/
def startK (P : Nat → BitVec 8) : Nat → Nat → List (BitVec 32) → (List (BitVec 32) → α) → α
  | 0, _, l, k => k l
  | n + 1, i, l, k => frcW (w0 P i) fun x => startK P n (i + 1) (x :: l) k
def schedK : Nat → List (BitVec 32) → (List (BitVec 32) → α) → α
  | 0, l, k => k l
  | n + 1, l, k => frcW (l.getD 15 0 + sig0 (l.getD 14 0) + l.getD 6 0 + sig1 (l.getD 1 0)) fun x => schedK n (x :: l) k
def roundK : List (BitVec 32) → List (BitVec 32) → BitVec 32 → BitVec 32 → BitVec 32 → BitVec 32 → BitVec 32 → BitVec 32 → BitVec 32 → BitVec 32 → (List (BitVec 32) → α) → α
  | w :: ws, s :: ss, a, b, c, d, e, f, g, h, k =>
    frcW (h + (ror e 6 ^^^ ror e 11 ^^^ ror e 25) + ((e &&& f) ^^^ (~~~e &&& g)) + s + w) fun one =>
    frcW ((ror a 2 ^^^ ror a 13 ^^^ ror a 22) + ((a &&& b) ^^^ (a &&& c) ^^^ (b &&& c))) fun two =>
    frcW (one + two) fun a' => frcW (d + one) fun e' => roundK ws ss a' a b c e' e f g k
  | _, _, a, b, c, d, e, f, g, h, k => k [a, b, c, d, e, f, g, h]
def addK : List (BitVec 32) → List (BitVec 32) → (List (BitVec 32) → α) → α
  | x :: l, y :: m, k => frcW (x + y) fun z => addK l m fun r => k (z :: r)
  | _, _, k => k []
def comprK (V : List (BitVec 32)) (P : Nat → BitVec 8) (k : List (BitVec 32) → α) : α :=
  startK P 16 0 [] fun l => schedK 48 l fun l =>
  roundK l.reverse (stepsL.map (BitVec.ofNat 32)) (V.getD 0 0) (V.getD 1 0) (V.getD 2 0) (V.getD 3 0) (V.getD 4 0) (V.getD 5 0) (V.getD 6 0) (V.getD 7 0) fun v => addK V v k
def blocksK (l : Bs) : Nat → Nat → List (BitVec 32) → (List (BitVec 32) → α) → α
  | 0, _, V, k => k V
  | n + 1, i, V, k => comprK V (fun j => L l (64 * i + j)) fun V => blocksK l n (i + 1) V k
/-- The sum of l. -/
def sumK (l : Bs) (k : Bs → α) : α :=
  tabK (L (full l)) (full l).length 0 fun m => blocksK m (m.length / 64) 0 (firstL.map (BitVec.ofNat 32)) fun V => tabK (outW fun i => V.getD i 0) 32 0 k
end
section
variable {α : Sort _}
def l8 (v : Nat → BitVec 32) : List (BitVec 32) := [v 0, v 1, v 2, v 3, v 4, v 5, v 6, v 7]
theorem l8_get (v : Nat → BitVec 32) {j : Nat} (h : j < 8) : (l8 v).getD j 0 = v j := by
  have : j = 0 ∨ j = 1 ∨ j = 2 ∨ j = 3 ∨ j = 4 ∨ j = 5 ∨ j = 6 ∨ j = 7 := by omega
  rcases this with rfl | rfl | rfl | rfl | rfl | rfl | rfl | rfl <;> rfl
/-- The newest first. -/
def Rep (l : List (BitVec 32)) (m : Nat) (W : Nat → BitVec 32) : Prop := l.length = m ∧ ∀ j, j < m → l.getD (m - 1 - j) 0 = W j
theorem Rep.cons {l : List (BitVec 32)} {m : Nat} {W : Nat → BitVec 32} (h : Rep l m W) : Rep (W m :: l) (m + 1) W :=
  ⟨by simp [h.1], fun j hj => by
    by_cases e : j = m
    · subst e; rw [show j + 1 - 1 - j = 0 by omega]; rfl
    · rw [show m + 1 - 1 - j = (m - 1 - j) + 1 by omega, List.getD_cons_succ]
      exact h.2 j (by omega)⟩
theorem startK_eq (P : Nat → BitVec 8) (W : Nat → BitVec 32) : ∀ (n i : Nat) (l : List (BitVec 32)), (∀ j, j < i + n → w0 P j = W j) → Rep l i W → ∃ l', Rep l' (i + n) W ∧ ∀ k : List (BitVec 32) → α, startK P n i l k = k l'
  | 0, i, l, _, h => ⟨l, h, fun _ => rfl⟩
  | n + 1, i, l, hW, h => by
    obtain ⟨l', h1, h2⟩ := startK_eq P W n (i + 1) (W i :: l) (fun j hj => hW j (by omega)) h.cons
    exact ⟨l', by rwa [show i + (n + 1) = i + 1 + n by omega], fun k => by simp only [startK]; rw [frcW_eq, hW i (by omega), h2]⟩
theorem schedK_eq (W : Nat → BitVec 32) : ∀ (n m : Nat) (l : List (BitVec 32)), (∀ j, j < n → W (m + 16 + j) = W (m + j) + sig0 (W (m + j + 1)) + W (m + j + 9) + sig1 (W (m + j + 14))) → Rep l (m + 16) W → ∃ l', Rep l' (m + 16 + n) W ∧ ∀ k : List (BitVec 32) → α, schedK n l k = k l'
  | 0, m, l, _, h => ⟨l, h, fun _ => rfl⟩
  | n + 1, m, l, hW, h => by
    have e0 := hW 0 (by omega)
    simp only [Nat.add_zero] at e0
    have g : ∀ i, i < 16 → l.getD i 0 = W (m + 15 - i) := fun i hi => by
      have := h.2 (m + 15 - i) (by omega)
      rwa [show m + 16 - 1 - (m + 15 - i) = i by omega] at this
    have e1 : l.getD 15 0 + sig0 (l.getD 14 0) + l.getD 6 0 + sig1 (l.getD 1 0) = W (m + 16) := by
      rw [g 15 (by omega), g 14 (by omega), g 6 (by omega), g 1 (by omega), e0]
      rw [show m + 15 - 15 = m by omega, show m + 15 - 14 = m + 1 by omega, show m + 15 - 6 = m + 9 by omega, show m + 15 - 1 = m + 14 by omega]
    obtain ⟨l', h1, h2⟩ := schedK_eq W n (m + 1) (W (m + 16) :: l) (fun j hj => by
      have := hW (j + 1) (by omega)
      rw [show m + 1 + 16 + j = m + 16 + (j + 1) by omega, show m + 1 + j = m + (j + 1) by omega]
      exact this) (by have := h.cons; rwa [show m + 1 + 16 = m + 16 + 1 by omega])
    exact ⟨l', by rwa [show m + 16 + (n + 1) = m + 1 + 16 + n by omega], fun k => by simp only [schedK]; rw [frcW_eq, e1, h2]⟩
theorem wS_up (P : Nat → BitVec 8) (k i : Nat) (hi : i < 16 + k) : ∀ n, wS P (k + n) i = wS P k i
  | 0 => rfl
  | n + 1 => by
    rw [← Nat.add_assoc]
    simp only [wS]
    rw [if_neg (by omega), wS_up P k i hi n]
theorem wS_at (P : Nat → BitVec 8) (k i : Nat) (hi : i < 16 + k) (hk : k ≤ 48) : wS P 48 i = wS P k i := by
  have := wS_up P k i hi (48 - k)
  rwa [show k + (48 - k) = 48 by omega] at this
theorem wS_new (P : Nat → BitVec 8) (k : Nat) (hk : k < 48) : wS P 48 (16 + k) = wS P 48 k + sig0 (wS P 48 (k + 1)) + wS P 48 (k + 9) + sig1 (wS P 48 (k + 14)) := by
  rw [wS_at P (k + 1) (16 + k) (by omega) (by omega), wS_at P k k (by omega) (by omega), wS_at P k (k + 1) (by omega) (by omega), wS_at P k (k + 9) (by omega) (by omega), wS_at P k (k + 14) (by omega) (by omega)]
  simp only [wS]
  rw [if_pos trivial]
theorem roundK_eq (W V : Nat → BitVec 32) (k : List (BitVec 32) → α) : ∀ (n i : Nat) (v : Nat → BitVec 32), vR W V i = v →
    roundK ((List.range n).map fun j => W (i + j)) ((List.range n).map fun j => steps (i + j)) (v 0) (v 1) (v 2) (v 3) (v 4) (v 5) (v 6) (v 7) k = k (l8 (vR W V (i + n)))
  | 0, i, v, h => by subst h; rfl
  | n + 1, i, v, h => by
    rw [List.range_succ_eq_map, List.map_cons, List.map_cons, roundK, frcW_eq, frcW_eq, frcW_eq, frcW_eq, List.map_map, List.map_map]
    have := roundK_eq W V k n (i + 1) (next v (steps i) (W i)) (by simp only [vR, h])
    rw [show i + (n + 1) = i + 1 + n by omega, ← this]
    have e1 : ((fun j => W (i + j)) ∘ Nat.succ) = fun j => W (i + 1 + j) := funext fun j => congrArg W (show i + (j + 1) = i + 1 + j by omega)
    have e2 : ((fun j => steps (i + j)) ∘ Nat.succ) = fun j => steps (i + 1 + j) := funext fun j => congrArg steps (show i + (j + 1) = i + 1 + j by omega)
    rw [e1, e2]
    rfl
theorem comprK_eq (V : Nat → BitVec 32) (P : Nat → BitVec 8) (k : List (BitVec 32) → α) : comprK (l8 V) P k = k (l8 (compress V P)) := by
  unfold comprK
  obtain ⟨W, hW⟩ : ∃ W, wS P 48 = W := ⟨_, rfl⟩
  obtain ⟨l1, a1, a2⟩ := startK_eq (α := α) P W 16 0 [] (fun j hj => by rw [← hW, wS_at P 0 j (by omega) (by omega)]; simp only [wS]; rw [if_pos (by omega)]) ⟨rfl, fun j hj => absurd hj (by omega)⟩
  rw [a2]
  obtain ⟨l2, b1, b2⟩ := schedK_eq (α := α) W 48 0 l1 (fun j hj => by
    rw [← hW]
    simp only [Nat.zero_add]
    exact wS_new P j hj) a1
  rw [b2]
  have hrev : l2.reverse = (List.range 64).map fun j => W (0 + j) := by
    apply List.ext_getElem
    · simp [b1.1]
    · intro j h1 h2
      have hj : j < 64 := by simpa using h2
      have := b1.2 j hj
      rw [List.getD_eq_getElem?_getD, List.getElem?_eq_getElem (by rw [b1.1]; omega)] at this
      simp only [List.getElem_reverse, List.getElem_map, List.getElem_range, Nat.zero_add, b1.1]
      exact this
  have hst : stepsL.map (BitVec.ofNat 32) = (List.range 64).map fun j => steps (0 + j) := by
    apply List.ext_getElem
    · rfl
    · intro j h1 h2
      have hj : j < stepsL.length := by simpa using h1
      simp only [List.getElem_map, List.getElem_range, Nat.zero_add]
      unfold steps
      rw [List.getD_eq_getElem?_getD, List.getElem?_eq_getElem hj]
      rfl
  rw [hrev, hst]
  have h8 := fun j hj => l8_get V (j := j) hj
  rw [h8 0 (by omega), h8 1 (by omega), h8 2 (by omega), h8 3 (by omega), h8 4 (by omega), h8 5 (by omega), h8 6 (by omega), h8 7 (by omega)]
  rw [roundK_eq W V _ 64 0 V rfl]
  simp only [l8, addK, frcW_eq]
  unfold compress
  rw [hW]
theorem blocksK_eq (m : Bs) (k : List (BitVec 32) → α) : ∀ (n i : Nat), 64 * (i + n) ≤ m.length → blocksK m n i (l8 (wordsAt m i).V) k = k (l8 (wordsAt m (i + n)).V)
  | 0, _, _ => rfl
  | n + 1, i, h => by
    simp only [blocksK]
    rw [comprK_eq, ← wordsAt_succ m i (by omega), blocksK_eq m k n (i + 1) (by omega), show i + (n + 1) = i + 1 + n by omega]
theorem sumK_eq (l : Bs) (k : Bs → α) : sumK l k = k (sumL l) := by
  obtain ⟨Q, hQ, _⟩ := full_64 l
  unfold sumK
  rw [tabK_eq, tab_L, hQ, show 64 * Q / 64 = Q by omega]
  have h0 : firstL.map (BitVec.ofNat 32) = l8 (wordsAt (full l) 0).V := by
    show _ = l8 (pushL d0 ((full l).take (64 * 0))).V
    rw [Nat.mul_zero, List.take_zero]
    rfl
  rw [h0, blocksK_eq (full l) _ Q 0 (by omega), tabK_eq, sumL_full]
  have h1 : (wordsAt (full l) (0 + Q)) = pushL d0 (full l) := by
    unfold wordsAt
    rw [Nat.zero_add, ← hQ, List.take_length]
  rw [h1]
  congr 1
/-- A mark. -/
def padK (x : BitVec 8) (K : Bs) (k : Bs → α) : α := tabK (fun i => L K i ^^^ x) 64 0 k
def keyK (key : Bs) (k : Bs → α) : α := if 64 < key.length then sumK key k else k key
def markK (key m : Bs) (k : Bs → α) : α := keyK key fun K => padK 0x36#8 K fun i => padK 0x5c#8 K fun o => sumK (i ++ m) fun s => sumK (o ++ s) k
theorem markK_eq (key m : Bs) (k : Bs → α) : markK key m k = k (markL key m) := by
  have e : ∀ k' : Bs → α, keyK key k' = k' (keyL key) := fun k' => by
    unfold keyK keyL
    split
    · exact sumK_eq _ _
    · rfl
  unfold markK padK
  rw [e, tabK_eq, tabK_eq, sumK_eq, sumK_eq]
  rfl
end
theorem sum_by {l : Bs} {p : Bs → Bool} (h : sumK l p = true) : p (sumL l) = true := by rwa [sumK_eq] at h
theorem mark_by {key m : Bs} {p : Bs → Bool} (h : markK key m p = true) : p (markL key m) = true := by rwa [markK_eq] at h
end Sha
end Go.Proofs.Ytndlhhhebijknaa
