/-
  Texts of this claim, part 6: Sxr, AesM, AesA, ShaM, ShaA, ShaN, ShaB, ShaC, ShaP, AesR, AesR2, ShaD, ShaE, ShaL, ShaS, ShaT, ShaK, ShaQ, ShaW, ShaX, ShaV, Sxw, Sxv, ShaY, KdfA, KdfB, KdfC, KdfD, AesR3. No condition of its own.
-/
import Derived.OpenShut
import Derived.Test.YtkjdkeolkigibaaGreatG5
section
/-
  sync.Once's Do as a function over blocks; counters. No condition.
-/
namespace Go.Proofs.YtkjdkeolkigibaaGreat
set_option linter.unusedVariables false
namespace Sx
open Go.RowKit

section
variable {C : Cx} {r : Rho} {w : World} {B f : Nat}
theorem put_first {x y : SC} {l : List Seg} {v : Value} (ok : HeapOk C [.one x :: l] r w) (hr : r[0]? = some (B, f)) (hv : y.Is r v) (h0 : C.ro = 0) : HeapOk C [.one y :: l] r (w.setCell ⟨B, f, none⟩ v) := by
  obtain ⟨l', e, hp⟩ := putS_spec (new := [.one y]) (l := .one x :: l) (b := 0) (o := 0) (k := fun l' => l' = .one y :: l) rfl
  subst e
  exact ok.put hr (i := 0) rfl (by simp) hp (vs := [v]) ⟨rfl, fun j z e => by
    cases j with
    | zero => simp [flat] at e; subst e; exact ⟨v, rfl, hv⟩
    | succ j => simp [flat] at e⟩ (by omega)
theorem put_second {x y z : SC} {l : List Seg} {v : Value} (ok : HeapOk C [.one z :: .one x :: l] r w) (hr : r[0]? = some (B, f)) (hv : y.Is r v) (h0 : C.ro = 0) : HeapOk C [.one z :: .one y :: l] r (w.setCell ⟨B, f + 1, none⟩ v) := by
  obtain ⟨l', e, hp⟩ := putS_spec (new := [.one y]) (l := .one z :: .one x :: l) (b := 1) (o := 0) (k := fun l' => l' = .one z :: .one y :: l) rfl
  subst e
  exact ok.put hr (i := 0) rfl (by simp) hp (vs := [v]) ⟨rfl, fun j z e => by
    cases j with
    | zero => simp [flat] at e; subst e; exact ⟨v, rfl, hv⟩
    | succ j => simp [flat] at e⟩ (by omega)
end
/-- From another world on. -/
theorem HeapOk.rebase {P : Program} {T : List (Nat × TD)} {w w1 : World} {h h0 h1 : List (List Seg)} {r : Rho} (ok : HeapOk (cx0 P T w r 0 h0) h r w1) : HeapOk (cx0 P T w1 r 0 h1) h r w1 :=
  ⟨Ext.refl _ _, RLe.refl _, Nat.zero_le _, ok.len, ok.chunks, ok.lt, fun i B f ho h => .inl (mem_drop.2 ⟨i, f, ho, h⟩), fun i B f ho => absurd ho (Nat.not_lt_zero i), fun i ch ho => absurd ho (Nat.not_lt_zero i), ok.apart⟩
theorem HeapOk.onto {P : Program} {T : List (Nat × TD)} {w w1 w2 : World} {h h0 h1 : List (List Seg)} {r : Rho} (e : Ext (r.map (·.1)) w w1) (ok : HeapOk (cx0 P T w1 r 0 h1) h r w2) : HeapOk (cx0 P T w r 0 h0) h r w2 :=
  ⟨e.trans ok.ext, ok.agree, Nat.zero_le _, ok.len, ok.chunks, ok.lt, fun i B f ho h => .inl (mem_drop.2 ⟨i, f, ho, h⟩), fun i B f ho => absurd ho (Nat.not_lt_zero i), fun i ch ho => absurd ho (Nat.not_lt_zero i), ok.apart⟩
theorem is_at {C : Cx} {h : List (List Seg)} {r : Rho} {w : World} {B f : Nat} {l : List Seg} {x : SC} {j : Nat} (ok : HeapOk C h r w) (hr : r[0]? = some (B, f)) (hh : h[0]? = some l) (hx : (flat l)[j]? = some x) (h0 : C.ro = 0) :
    ∃ v, w.cell? ⟨B, f + j, none⟩ = some v ∧ x.Is r v ∧ w.frozen? ⟨B, f + j, none⟩ = false := by
  obtain ⟨v, e1, e2, e3⟩ := ok.chunks 0 l B f hh hr j x hx
  exact ⟨v, e1, e2, (e3 (by rw [h0]; rfl)).fr e1⟩
theorem fn_once {g : FuncId} (hgb : ((Tryz.prog.funcs[g]?).any fun fn => fn.body.isSome && fn.name != "runtime.NumGoroutine") = true) {rest rest' : List Seg}
    (hF : Go.Proofs.YtkjdkeolkigibaaGreat.Sx.Fn Tryz.prog tds g [.one (.w32 0) :: .one (.int .i32 1) :: rest] [.c (.p 0 0 0)] (fun _ => True) (fun x hs => x = .tup [] ∧ hs = [.one (.w32 0) :: .one (.int .i32 1) :: rest'])) :
    Go.Proofs.YtkjdkeolkigibaaGreat.Sx.Fn Tryz.prog tds 40 [.one (.w32 0) :: .one (.int .i32 0) :: rest] [.c (.p 0 0 0), .c (.clo g 0 0 0)] (fun _ => True) (fun x hs => x = .tup [] ∧ hs = [.one (.w32 1) :: .one (.int .i32 0) :: rest']) := by
  intro w r0 vs ok ha _
  obtain ⟨⟨B, f⟩, rfl⟩ := List.length_eq_one_iff.1 ok.len
  obtain ⟨hl, ha⟩ := ha
  obtain ⟨v0, v1, rfl⟩ := len2' hl.symm
  obtain ⟨u, hu, B0, f0, hr0, rfl⟩ := ha 0 _ rfl
  obtain ⟨u, hu1, B1, f1, hr1, rfl⟩ := ha 1 _ rfl
  simp at hu hu1 hr0 hr1
  obtain ⟨rfl, rfl⟩ := hr0
  obtain ⟨rfl, rfl⟩ := hr1
  subst hu
  subst hu1
  obtain ⟨_, c0, rfl, z0⟩ := is_at ok rfl rfl (j := 0) (x := .w32 0) rfl rfl
  obtain ⟨_, c1, rfl, z1⟩ := is_at ok rfl rfl (j := 1) (x := .int .i32 0) rfl rfl
  have ok1 := put_second (y := .int .i32 1) ok rfl (v := .int .i32 1) rfl rfl
  have hg := hF (w.setCell ⟨B, f + 1, none⟩ (.int .i32 1)) [(B, f)] [.pointer (some ⟨B, f, none⟩)] ok1.rebase ⟨rfl, fun j x e => by
    cases j with
    | zero => simp at e; subst e; exact ⟨_, rfl, B, f, rfl, rfl⟩
    | succ j => simp at e⟩ trivial
  let R : World → Prop := fun w2 => HeapOk (cx0 Tryz.prog tds (w.setCell ⟨B, f + 1, none⟩ (.int .i32 1)) [(B, f)] 0 [.one (.w32 0) :: .one (.int .i32 1) :: rest]) [.one (.w32 0) :: .one (.int .i32 1) :: rest'] [(B, f)] w2
  have hg2 : Calls Tryz.prog g #[.pointer (some ⟨B, f, none⟩)] (w.setCell ⟨B, f + 1, none⟩ (.int .i32 1)) fun e w2 => e = .returned (.tuple #[]) ∧ R w2 := by
    refine hg.mono ?_
    rintro e w2 ⟨v, x, hs, r', rfl, hx, hok, rfl, rfl⟩
    obtain ⟨vs, rfl, hl, _⟩ := hx
    obtain rfl : vs = [] := List.eq_nil_of_length_eq_zero hl.symm
    obtain ⟨y, rfl⟩ := List.length_eq_one_iff.1 hok.len
    have := hok.agree 0 (B, f) rfl
    simp at this
    subst this
    exact ⟨rfl, hok⟩
  have hR : ∀ w2, R w2 → w2.cell? ⟨B, f, none⟩ = some (.int .u32 0) ∧ w2.cell? ⟨B, f + 1, none⟩ = some (.int .i32 1) ∧ w2.frozen? ⟨B, f, none⟩ = false ∧ w2.frozen? ⟨B, f + 1, none⟩ = false := by
    intro w2 h
    obtain ⟨_, d0, rfl, y0⟩ := is_at h rfl rfl (j := 0) (x := .w32 0) rfl rfl
    obtain ⟨_, d1, rfl, y1⟩ := is_at h rfl rfl (j := 1) (x := .int .i32 1) rfl rfl
    exact ⟨d0, d1, y0, y1⟩
  refine (once_slow B f (.func (.func g) #[.pointer (some ⟨B, f, none⟩)] #[]) w _ c0 (slow_any B f (.func g) #[.pointer (some ⟨B, f, none⟩)] #[] g #[.pointer (some ⟨B, f, none⟩)] R w rfl hgb rfl c0 c1 z0 z1 hg2 hR) (fun e w' h => h.1)).mono ?_
  rintro e w' ⟨rfl, w2, hw2, rfl⟩
  have k1 := put_first (y := .w32 1) hw2.drew rfl (v := .int .u32 1) rfl rfl
  have k2 := put_second (y := .int .i32 0) k1 rfl (v := .int .i32 0) rfl rfl
  exact ⟨.tuple #[], .tup [], _, [(B, f)], rfl, ⟨[], rfl, rfl, fun j x e => by simp at e⟩, HeapOk.onto ok1.ext k2, rfl, rfl⟩
theorem fn_once_done {rest : List Seg} {g : FuncId} :
    Go.Proofs.YtkjdkeolkigibaaGreat.Sx.Fn Tryz.prog tds 40 [.one (.w32 1) :: rest] [.c (.p 0 0 0), .c (.clo g 0 0 0)] (fun _ => True) (fun x hs => x = .tup [] ∧ hs = [.one (.w32 1) :: rest]) := by
  intro w r0 vs ok ha _
  obtain ⟨⟨B, f⟩, rfl⟩ := List.length_eq_one_iff.1 ok.len
  obtain ⟨hl, ha⟩ := ha
  obtain ⟨v0, v1, rfl⟩ := len2' hl.symm
  obtain ⟨u, hu, B0, f0, hr0, rfl⟩ := ha 0 _ rfl
  simp at hu hr0
  obtain ⟨rfl, rfl⟩ := hr0
  subst hu
  obtain ⟨_, c0, rfl, z0⟩ := is_at ok rfl rfl (j := 0) (x := .w32 1) rfl rfl
  refine (once_done B f v1 w c0).mono ?_
  rintro e w' ⟨rfl, rfl⟩
  exact ⟨.tuple #[], .tup [], _, [(B, f)], rfl, ⟨[], rfl, rfl, fun j x e => by simp at e⟩, ok, rfl, rfl⟩
theorem fn_i64_add {l l' : List Seg} {off : Nat} {n : Int} (hx : (flat l)[off]? = some (.int .i64 n)) (hne : l ≠ []) (hp : Put [.one (.int .i64 (n + 1))] l l' off) (hn : -9223372036854775808 ≤ n + 1 ∧ n + 1 ≤ 9223372036854775807) :
    Go.Proofs.YtkjdkeolkigibaaGreat.Sx.Fn Tryz.prog tds 63 [l] [.c (.p 0 off 0), .c (.int .i64 1)] (fun _ => True) (fun x hs => x = .a (.c (.int .i64 (n + 1))) ∧ hs = [l']) := by
  intro w r0 vs ok ha _
  obtain ⟨⟨B, f⟩, rfl⟩ := List.length_eq_one_iff.1 ok.len
  obtain ⟨hl, ha⟩ := ha
  obtain ⟨v0, v1, rfl⟩ := len2' hl.symm
  obtain ⟨u, hu, B0, f0, hr0, rfl⟩ := ha 0 _ rfl
  obtain ⟨u, hu1, rfl⟩ := ha 1 _ rfl
  simp at hu hu1 hr0
  obtain ⟨rfl, rfl⟩ := hr0
  subst hu
  subst hu1
  obtain ⟨_, c0, rfl, z0⟩ := is_at ok rfl rfl (j := off) hx rfl
  refine (i64_add ⟨B, f + off, none⟩ n w c0 z0 hn).mono ?_
  rintro e w' ⟨rfl, rfl⟩
  exact ⟨.int .i64 (n + 1), .a (.c (.int .i64 (n + 1))), _, [(B, f)], rfl, rfl, ok.put rfl (i := 0) rfl hne hp (vs := [.int .i64 (n + 1)]) ⟨rfl, fun j z e => by
    cases j with
    | zero => simp [flat] at e; subst e; exact ⟨_, rfl, rfl⟩
    | succ j => simp [flat] at e⟩ (Nat.zero_le _), rfl, rfl⟩
end Sx
end Go.Proofs.YtkjdkeolkigibaaGreat
end

section
/-
  The field of 256 as the program reckons it: plain functions. No condition.
-/
namespace Go.Proofs.YtkjdkeolkigibaaGreat
set_option linter.unusedVariables false
namespace Aes

def twice (a : BitVec 8) : BitVec 8 := if a &&& 128#8 = 0#8 then a <<< 1 else a <<< 1 ^^^ 27#8
/-- k rounds of the product: what is summed, and the first factor. -/
def timesS (b : BitVec 8) : Nat → BitVec 8 × BitVec 8 → BitVec 8 × BitVec 8
  | 0, s => s
  | k + 1, s => let s := timesS b k s; (if (b >>> k) &&& 1#8 = 1#8 then s.1 ^^^ s.2 else s.1, twice s.2)
def times (a b : BitVec 8) : BitVec 8 := (timesS b 8 (0#8, a)).1
/-- k rounds of the power: what is reckoned, and the power. -/
def invS : Nat → BitVec 8 × BitVec 8 → BitVec 8 × BitVec 8
  | 0, s => s
  | k + 1, s => let s := invS k s; (if (254 >>> k) % 2 = 1 then times s.1 s.2 else s.1, times s.2 s.2)
def inverse (a : BitVec 8) : BitVec 8 := (invS 8 (1#8, a)).1
def rot8 (x : BitVec 8) (k : Nat) : BitVec 8 := (x <<< k) ||| (x >>> (8 - k))
/-- What a byte is exchanged for. -/
def boxS (i : BitVec 8) : Nat → BitVec 8
  | 0 => i ^^^ 99#8
  | k + 1 => boxS i k ^^^ rot8 i ((k + 1) % 8)
def box (a : BitVec 8) : BitVec 8 := boxS (inverse a) 4
/-- The columns mixed. -/
def mixAt (b : Nat → BitVec 8) (i : Nat) : BitVec 8 :=
  twice (b i) ^^^ twice (b (i / 4 * 4 + (i + 1) % 4)) ^^^ b (i / 4 * 4 + (i + 1) % 4) ^^^ b (i / 4 * 4 + (i + 2) % 4) ^^^ b (i / 4 * 4 + (i + 3) % 4)
def shiftAt (b : Nat → BitVec 8) (i : Nat) : BitVec 8 := box (b (4 * ((i / 4 + i % 4) % 4) + i % 4))
/-! The document's product. -/
/-! The document's block. -/
/-! The program's round keys. -/
def pW (old : Nat → BitVec 8) (p : BitVec 8) : Nat → Nat → BitVec 8
  | 0, j => if j = 0 then old 0 ^^^ box (old 13) ^^^ p else old j ^^^ box (old (12 + (j + 1) % 4))
  | c + 1, j => old (4 * (c + 1) + j) ^^^ pW old p c j
def pNow (old : Nat → BitVec 8) (p : BitVec 8) (i : Nat) : BitVec 8 := pW old p (i / 4) (i % 4)
/-- r round keys behind the first one; the power. -/
def pKeyS (k : Nat → BitVec 8) : Nat → (Nat → BitVec 8) × BitVec 8
  | 0 => (k, 1#8)
  | r + 1 => let s := pKeyS k r
    (fun i => if i < 16 * (r + 1) then s.1 i else pNow (fun j => s.1 (16 * r + j)) s.2 (i - 16 * (r + 1)), times s.2 2#8)
def pKeys (k : Nat → BitVec 8) : Nat → BitVec 8 := (pKeyS k 10).1
/-- The program's block, turned. -/
def pTurnS (k b : Nat → BitVec 8) : Nat → Nat → BitVec 8
  | 0, i => b i ^^^ pKeys k i
  | r + 1, i => mixAt (shiftAt (pTurnS k b r)) i ^^^ pKeys k (16 * (r + 1) + i)
def pTurn (k b : Nat → BitVec 8) (i : Nat) : BitVec 8 := shiftAt (pTurnS k b 9) i ^^^ pKeys k (160 + i)
end Aes
end Go.Proofs.YtkjdkeolkigibaaGreat
end

section
/-
  The program's field of 256. No condition.
-/
namespace Go.Proofs.YtkjdkeolkigibaaGreat
set_option linter.unusedVariables false
namespace Sx
open Aes

theorem fn_twice (a : BitVec 8) : Fn Tryz.prog tds 72 [] [.c (.w8 a)] (fun _ => True) (fun x hs => x = .a (.c (.w8 (twice a))) ∧ hs = []) := by
  refine fn_of_body tds_ok follows_ Tryz.func72 rfl (t := [.a (.c (.w8 (a))), .any, .any, .any, .any, .any, .any, .any, .any, .any, .any]) rfl (fun w r0 hr _ => ?_)
  obtain rfl : r0 = [] := List.eq_nil_of_length_eq_zero hr
  refine ⟨fun h => ?_, fun h => ?_⟩
  · exact ⟨.a (.c (.w8 (twice a))), [], ⟨[], ⟨rfl, rfl, rfl⟩, (if_neg (of_decide_eq_true h)).symm, trivial⟩, rfl, rfl⟩
  · exact ⟨.a (.c (.w8 (twice a))), [], ⟨[], ⟨rfl, rfl, rfl⟩, (if_pos (by simpa using h)).symm, trivial⟩, rfl, rfl⟩
theorem fn_times (a b : BitVec 8) : Fn Tryz.prog tds 42 [] [.c (.w8 a), .c (.w8 b)] (fun _ => True) (fun x hs => x = .a (.c (.w8 (times a b))) ∧ hs = []) := by
  refine fn_of_body tds_ok follows_ Tryz.func42 rfl (t := [.a (.c (.w8 (a))), .a (.c (.w8 (b))), .any, .any, .any, .any, .any, .any, .any, .any, .any, .any, .any, .any, .any, .any, .any, .any, .any, .any, .any, .any, .any]) rfl (fun w r0 hr _ => ?_)
  obtain rfl : r0 = [] := List.eq_nil_of_length_eq_zero hr
  refine .inl ⟨Nat, fun k => ⟨[.a (.c (.w8 ((timesS b k (0#8, a)).2))), .a (.c (.w8 (b))), .any, .any, .any, .a (.c (.w8 ((timesS b k (0#8, a)).1))), .any, .a (.c (.int .i64 (↑k))), .any, .any, .any, .any, .any, .any, .any, .any, .any, .any, .any, .any, .any, .any, .any], []⟩, fun k => k ≤ 8, fun k => 8 - k, ⟨0, [], ⟨⟨rfl, rfl, rfl⟩, rfl, rfl, rfl, rfl, trivial⟩, by omega⟩, fun k hk => ⟨fun h => ?_, fun h => ?_⟩⟩
  · have hlt : (k : Int) < 8 := of_decide_eq_true h
    have e : ∀ y : BitVec 8, y >>> (BitVec.ofInt 64 (k : Int)).toNat = y >>> k := fun y => by
      rw [BitVec.ofInt_natCast, BitVec.toNat_ofNat, Nat.mod_eq_of_lt (by omega)]
    refine ⟨fun h2 => ?_, fun h2 => ?_⟩
    all_goals
      rw [e] at h2
      refine ⟨by kernel_rfl, call_same (fn_twice _) [] rfl ⟨rfl, trivial⟩ trivial (fun _ _ => trivial) ?_⟩
      rintro x hs ⟨rfl, rfl⟩
      refine ⟨⟨by omega, by omega⟩, k + 1, [], ⟨⟨rfl, rfl, rfl⟩, rfl, rfl, ?_, rfl, trivial⟩, by dsimp only; omega, by dsimp only; omega⟩
      first | exact (if_pos (of_decide_eq_true h2)).symm | exact (if_neg (of_decide_eq_false h2)).symm
  · obtain rfl : k = 8 := by have : ¬ (k : Int) < 8 := of_decide_eq_false h; have hk : k ≤ 8 := hk; omega
    exact ⟨.a (.c (.w8 (times a b))), [], ⟨[], ⟨rfl, rfl, rfl⟩, rfl, trivial⟩, rfl, rfl⟩
theorem bit254 : ∀ k, k < 8 → (((((254 : Int) / 2 ^ k).toNat &&& (1 : Int).toNat : Nat) : Int) = 1 ↔ (254 >>> k) % 2 = 1) := by decide
theorem d254 (n : Nat) : 0 ≤ (254 : Int) / 2 ^ n ∧ (254 : Int) / 2 ^ n ≤ 254 :=
  ⟨Int.ediv_nonneg (by omega) (Int.le_of_lt (Int.pow_pos (by omega))), Int.ediv_le_self _ (by omega)⟩
theorem fn_inverse (a : BitVec 8) : Fn Tryz.prog tds 70 [] [.c (.w8 a)] (fun _ => True) (fun x hs => x = .a (.c (.w8 (inverse a))) ∧ hs = []) := by
  refine fn_of_body tds_ok follows_ Tryz.func70 rfl (t := [.a (.c (.w8 (a))), .any, .any, .any, .any, .any, .any, .any, .any, .any, .any, .any, .any, .any, .any, .any, .any, .any, .any, .any, .any, .any, .any]) rfl (fun w r0 hr _ => ?_)
  obtain rfl : r0 = [] := List.eq_nil_of_length_eq_zero hr
  refine .inl ⟨Nat, fun k => ⟨[.any, .any, .any, .a (.c (.w8 ((invS k (1#8, a)).1))), .a (.c (.w8 ((invS k (1#8, a)).2))), .any, .any, .a (.c (.int .i64 (↑k))), .any, .any, .any, .any, .any, .any, .any, .any, .any, .any, .any, .any, .any, .any, .any], []⟩, fun k => k ≤ 8, fun k => 8 - k, ⟨0, [], ⟨⟨rfl, rfl, rfl⟩, rfl, rfl, rfl, trivial⟩, by omega⟩, fun k hk => ⟨fun h => ?_, fun h => ?_⟩⟩
  · have hlt : (k : Int) < 8 := of_decide_eq_true h
    have hd := d254 (BitVec.ofInt 64 (k : Int)).toNat
    refine ⟨by rw [cast64 (by omega)]; omega, ⟨by omega, by omega, by omega, by omega⟩, fun h2 => ?_, fun h2 => ?_⟩
    all_goals rw [cast64 (by omega)] at h2
    · have h3 := (bit254 k (by omega)).1 (of_decide_eq_true h2)
      refine ⟨by kernel_rfl, call_same (fn_times _ _) [] rfl ⟨rfl, rfl, trivial⟩ trivial (fun _ _ => trivial) ?_⟩
      rintro x hs ⟨rfl, rfl⟩
      refine ⟨by kernel_rfl, call_same (fn_times _ _) [] rfl ⟨rfl, rfl, trivial⟩ trivial (fun _ _ => trivial) ?_⟩
      rintro x hs ⟨rfl, rfl⟩
      exact ⟨⟨by omega, by omega⟩, k + 1, [], ⟨⟨rfl, rfl, rfl⟩, (if_pos h3).symm, rfl, rfl, trivial⟩, by dsimp only; omega, by dsimp only; omega⟩
    · have h3 := mt (bit254 k (by omega)).2 (of_decide_eq_false h2)
      refine ⟨by kernel_rfl, call_same (fn_times _ _) [] rfl ⟨rfl, rfl, trivial⟩ trivial (fun _ _ => trivial) ?_⟩
      rintro x hs ⟨rfl, rfl⟩
      exact ⟨⟨by omega, by omega⟩, k + 1, [], ⟨⟨rfl, rfl, rfl⟩, (if_neg h3).symm, rfl, rfl, trivial⟩, by dsimp only; omega, by dsimp only; omega⟩
  · obtain rfl : k = 8 := by have : ¬ (k : Int) < 8 := of_decide_eq_false h; have hk : k ≤ 8 := hk; omega
    exact ⟨.a (.c (.w8 (inverse a))), [], ⟨[], ⟨rfl, rfl, rfl⟩, rfl, trivial⟩, rfl, rfl⟩
theorem rot_eq (a : BitVec 8) : ∀ k : Nat, k < 5 → a <<< ((BitVec.ofInt 64 (k : Int)) &&& 7#64).toNat ||| a >>> (8#64 - ((BitVec.ofInt 64 (k : Int)) &&& 7#64)).toNat = rot8 a (k % 8) := by
  intro k hk
  have : k = 0 ∨ k = 1 ∨ k = 2 ∨ k = 3 ∨ k = 4 := by omega
  rcases this with rfl | rfl | rfl | rfl | rfl <;> rfl
theorem fn_rot8 (a : BitVec 8) (k : Nat) (hk : k < 5) : Fn Tryz.prog tds 71 [] [.c (.w8 a), .c (.int .i64 (k : Int))] (fun _ => True) (fun x hs => x = .a (.c (.w8 (rot8 a (k % 8)))) ∧ hs = []) := by
  refine fn_of_body tds_ok follows_ Tryz.func71 rfl (t := [.a (.c (.w8 (a))), .a (.c (.int .i64 (↑k))), .any, .any, .any, .any, .any, .any, .any, .any, .any, .any, .any, .any, .any, .any, .any]) rfl (fun w r0 hr _ => ?_)
  obtain rfl : r0 = [] := List.eq_nil_of_length_eq_zero hr
  exact ⟨.a (.c (.w8 (rot8 a (k % 8)))), [], ⟨[], ⟨rfl, rfl, rfl⟩, rot_eq a k hk, trivial⟩, rfl, rfl⟩
/-- A block as a value. -/
abbrev blk (a : Nat → BitVec 8) : SA := .agg [.row 16 fun i => .w8 (a i)]
def xorB (a b : Nat → BitVec 8) : Nat → BitVec 8 := fun i => a i ^^^ b i
theorem fn_sum (a b : Nat → BitVec 8) : Fn Tryz.prog tds 64 [] [blk a, blk b] (fun _ => True) (fun x hs => x = .a (blk (xorB a b)) ∧ hs = []) := by
  refine fn_of_body tds_ok follows_ Tryz.func64 rfl (t := [.a (blk a), .a (blk b), .any, .any, .any, .any, .any, .any, .any, .any, .any, .any, .any, .any, .any, .any, .any, .any, .any]) rfl (fun w r0 hr _ => ?_)
  obtain rfl : r0 = [] := List.eq_nil_of_length_eq_zero hr
  refine ⟨rfl, rfl, .inl ⟨Nat, fun k => ⟨[.any, .any, .a (.c (.p 0 0 0)), .a (.c (.p 1 0 0)), .a (.c (.p 2 0 0)), .any, .a (.c (.int .i64 (↑k))), .any, .any, .any, .any, .any, .any, .any, .any, .any, .any, .any, .any], [[.row 16 fun i => .w8 (if i < k then a i ^^^ b i else a i)], [.row 16 fun i => .w8 (b i)], [.row 16 fun _ => .w8 0]]⟩, fun k => k ≤ 16, fun k => 16 - k, ⟨0, [0, 1, 2], ⟨⟨rfl, rfl, rfl⟩, rfl, rfl, rfl, rfl, rfl, fun j hj => ⟨by simp, trivial⟩, rfl, fun j hj => ⟨rfl, trivial⟩, rfl, fun j hj => ⟨rfl, trivial⟩, trivial⟩, by omega⟩, fun k hk => ⟨fun h => ?_, fun h => ?_⟩⟩⟩
  · have hlt : (k : Int) < 16 := of_decide_eq_true h
    refine ⟨none, [], [(0, true), (1, true), (2, true), (3, true), (4, true), (5, true), (6, true), (7, true)], [8], by kernel_rfl, ⟨by omega, by omega⟩, by omega, ⟨by omega, by omega⟩, by omega, ⟨by omega, by omega⟩, by omega, rfl, ⟨by omega, by omega⟩, k + 1, [0, 1, 2], ⟨⟨rfl, rfl, rfl⟩, rfl, rfl, rfl, rfl, rfl, fun j hj => ?_, rfl, fun j hj => ⟨rfl, trivial⟩, rfl, fun j hj => ⟨rfl, trivial⟩, trivial⟩, by dsimp only; omega, by dsimp only; omega⟩
    refine eqC_w8 ?_
    by_cases hjk : j = k
    · subst hjk; simp [upd]
    · have : j < k + 1 ↔ j < k := by omega
      simp [upd, hjk, this]
  · obtain rfl : k = 16 := by have : ¬ (k : Int) < 16 := of_decide_eq_false h; have hk : k ≤ 16 := hk; omega
    exact ⟨by omega, rfl, rfl, by omega, .a (blk (xorB a b)), [], ⟨[], ⟨rfl, rfl, rfl⟩, rfl, rfl, fun j hj => eqC_w8 (by simp [hj, xorB]), trivial⟩, rfl, rfl⟩
theorem fn_mix (b : Nat → BitVec 8) : Fn Tryz.prog tds 65 [] [blk b] (fun _ => True) (fun x hs => x = .a (blk (mixAt b)) ∧ hs = []) := by
  refine fn_of_body tds_ok follows_ Tryz.func65 rfl (t := .a (blk b) :: anys 50) rfl (fun w r0 hr _ => ?_)
  obtain rfl : r0 = [] := List.eq_nil_of_length_eq_zero hr
  refine ⟨rfl, .inl ⟨Nat, fun k => ⟨[.any, .a (.c (.p 0 0 0)), .a (.c (.p 1 0 0)), .a (.c (.p 2 0 0)), .any, .any, .any, .any, .a (.c (.int .i64 (↑k))), .any, .any, .any, .any, .any, .any, .any, .any, .any, .any, .any, .any, .any, .any, .any, .any, .any, .any, .any, .any, .any, .any, .any, .any, .any, .any, .any, .any, .any, .any, .any, .any, .any, .any, .any, .any, .any, .any, .any, .any, .any, .any], [[.row 16 fun i => .w8 (b i)], [.row 16 fun _ => .w8 0], [.row 16 fun i => .w8 (if i < k then mixAt b i else 0#8)]]⟩, fun k => k ≤ 16, fun k => 16 - k, ⟨0, [0, 1, 2], ⟨⟨rfl, rfl, rfl⟩, rfl, rfl, rfl, rfl, rfl, fun j hj => ⟨rfl, trivial⟩, rfl, fun j hj => ⟨rfl, trivial⟩, rfl, fun j hj => ⟨by simp, trivial⟩, trivial⟩, by omega⟩, fun k hk => ⟨fun h => ?_, fun h => ?_⟩⟩⟩
  · have hlt : (k : Int) < 16 := of_decide_eq_true h
    refine ⟨⟨by omega, by omega, by omega⟩, ⟨by omega, by omega⟩, none, [], [(0, true), (1, true), (2, true), (3, true), (4, true), (5, true), (6, true), (7, true), (8, true), (9, true), (10, true), (11, true)], [], by kernel_rfl, ?_⟩
    refine ⟨⟨by omega, by omega⟩, by omega, ⟨by omega, by omega⟩, ⟨by omega, by omega⟩, ⟨by omega, by omega⟩, ⟨by omega, by omega⟩, by omega, none, [], [(0, true), (1, true), (3, true), (6, true), (8, true), (9, true), (10, true), (11, true), (12, true), (13, true), (14, true), (16, true), (17, true), (18, true), (19, true), (20, true), (21, true), (22, true), (2, false), (4, false), (5, true), (7, true), (15, true), (23, true), (24, true)], [25], by kernel_rfl, ?_⟩
    repeat refine ⟨by omega, ?_⟩
    refine ⟨by kernel_rfl, call_same (fn_twice _) [] rfl ⟨rfl, trivial⟩ trivial (fun _ _ => trivial) ?_⟩
    rintro x hs ⟨rfl, rfl⟩
    refine ⟨by kernel_rfl, call_same (fn_twice _) [] rfl ⟨rfl, trivial⟩ trivial (fun _ _ => trivial) ?_⟩
    rintro x hs ⟨rfl, rfl⟩
    repeat refine ⟨by omega, ?_⟩
    refine ⟨rfl, ⟨by omega, by omega⟩, k + 1, [0, 1, 2], ⟨⟨rfl, rfl, rfl⟩, rfl, rfl, rfl, rfl, rfl, fun j hj => ⟨rfl, trivial⟩, rfl, fun j hj => ⟨rfl, trivial⟩, rfl, fun j hj => eqC_w8 ?_, trivial⟩, by dsimp only; omega, by dsimp only; omega⟩
    refine (upd_w8 (g := fun i => .w8 (if i < k + 1 then mixAt b i else 0#8)) ?_ ?_ j).trans rfl
    · have e0 : (k : Int).toNat + 0 = k := by omega
      have e1 : ((k : Int) / 4 * 4 + ((k : Int) + 1) % 4).toNat + 0 = k / 4 * 4 + (k + 1) % 4 := by omega
      have e2 : ((k : Int) / 4 * 4 + ((k : Int) + 2) % 4).toNat + 0 = k / 4 * 4 + (k + 2) % 4 := by omega
      have e3 : ((k : Int) / 4 * 4 + ((k : Int) + 3) % 4).toNat + 0 = k / 4 * 4 + (k + 3) % 4 := by omega
      simp only [e0, e1, e2, e3, if_pos (show k < k + 1 by omega)]
      rfl
    · intro j hjk
      have hjk' : j ≠ k := by simpa using hjk
      have : j < k + 1 ↔ j < k := by omega
      simp only [this]
  · obtain rfl : k = 16 := by have : ¬ (k : Int) < 16 := of_decide_eq_false h; have hk : k ≤ 16 := hk; omega
    exact ⟨by omega, rfl, rfl, by omega, .a (blk (mixAt b)), [], ⟨[], ⟨rfl, rfl, rfl⟩, rfl, rfl, fun j hj => eqC_w8 (by simp [hj]), trivial⟩, rfl, rfl⟩
end Sx
end Go.Proofs.YtkjdkeolkigibaaGreat
end

section
/-
  SHA-256's tables as the program reckons them: plain functions. No condition.
-/
namespace Go.Proofs.YtkjdkeolkigibaaGreat
set_option linter.unusedVariables false
namespace Sha

def mul64 (x y : BitVec 64) : BitVec 64 × BitVec 64 :=
  let x0 := x &&& 4294967295#64
  let x1 := x >>> 32
  let y0 := y &&& 4294967295#64
  let y1 := y >>> 32
  let t := x1 * y0 + (x0 * y0) >>> 32
  let w1 := t &&& 4294967295#64
  let w2 := t >>> 32
  let w1 := w1 + x0 * y1
  (x1 * y1 + w2 + w1 >>> 32, x * y)
def sqFits (x n : BitVec 64) : Bool := decide ((mul64 x x).1 < n) || (decide ((mul64 x x).1 = n) && decide ((mul64 x x).2 = 0#64))
def cuTop (x : BitVec 64) : BitVec 64 := (mul64 x x).1 * x + (mul64 (mul64 x x).2 x).1
def cuFits (x n : BitVec 64) : Bool := decide (cuTop x < n <<< 32) || (decide (cuTop x = n <<< 32) && decide ((mul64 (mul64 x x).2 x).2 = 0#64))
/-- k rounds of the root, from the highest bit down. -/
def rootS (F : BitVec 64 → BitVec 64 → Bool) (n : BitVec 64) : Nat → BitVec 64
  | 0 => 0#64
  | k + 1 => if F (rootS F n k ||| (1#64 <<< (34 - k))) n then rootS F n k ||| (1#64 <<< (34 - k)) else rootS F n k
def root (F : BitVec 64 → BitVec 64 → Bool) (n : BitVec 64) : BitVec 64 := rootS F n 35
/-- No number from 2 up to below d goes into n. -/
def noDiv (n d : Nat) : Prop := ∀ e, 2 ≤ e → e < d → n % e ≠ 0
def isP (n : Nat) : Bool := (List.range 20).all fun d => decide (d < 2) || decide (n < d * d) || !(decide (n % d = 0))
/-- How many primes there are among k numbers from 2 on. -/
def cnt : Nat → Nat
  | 0 => 0
  | k + 1 => cnt k + if isP (k + 2) then 1 else 0
def stepsS (s : Nat → BitVec 32) : Nat → Nat → BitVec 32
  | 0, i => s i
  | k + 1, i => if isP (k + 2) && decide (i = cnt k) then (root cuFits (BitVec.ofNat 64 (k + 2))).setWidth 32 else stepsS s k i
def firstS (s : Nat → BitVec 32) : Nat → Nat → BitVec 32
  | 0, i => s i
  | k + 1, i => if isP (k + 2) && decide (cnt k < 8) && decide (i = cnt k) then (root sqFits (BitVec.ofNat 64 (k + 2))).setWidth 32 else firstS s k i
def stepsL : List Nat := [0x428a2f98, 0x71374491, 0xb5c0fbcf, 0xe9b5dba5, 0x3956c25b, 0x59f111f1, 0x923f82a4, 0xab1c5ed5,
  0xd807aa98, 0x12835b01, 0x243185be, 0x550c7dc3, 0x72be5d74, 0x80deb1fe, 0x9bdc06a7, 0xc19bf174,
  0xe49b69c1, 0xefbe4786, 0x0fc19dc6, 0x240ca1cc, 0x2de92c6f, 0x4a7484aa, 0x5cb0a9dc, 0x76f988da,
  0x983e5152, 0xa831c66d, 0xb00327c8, 0xbf597fc7, 0xc6e00bf3, 0xd5a79147, 0x06ca6351, 0x14292967,
  0x27b70a85, 0x2e1b2138, 0x4d2c6dfc, 0x53380d13, 0x650a7354, 0x766a0abb, 0x81c2c92e, 0x92722c85,
  0xa2bfe8a1, 0xa81a664b, 0xc24b8b70, 0xc76c51a3, 0xd192e819, 0xd6990624, 0xf40e3585, 0x106aa070,
  0x19a4c116, 0x1e376c08, 0x2748774c, 0x34b0bcb5, 0x391c0cb3, 0x4ed8aa4a, 0x5b9cca4f, 0x682e6ff3,
  0x748f82ee, 0x78a5636f, 0x84c87814, 0x8cc70208, 0x90befffa, 0xa4506ceb, 0xbef9a3f7, 0xc67178f2]
def firstL : List Nat := [0x6a09e667, 0xbb67ae85, 0x3c6ef372, 0xa54ff53a, 0x510e527f, 0x9b05688c, 0x1f83d9ab, 0x5be0cd19]
def steps (i : Nat) : BitVec 32 := BitVec.ofNat 32 (stepsL.getD i 0)
def first (i : Nat) : BitVec 32 := BitVec.ofNat 32 (firstL.getD i 0)
theorem cnt_mono (k : Nat) : ∀ d, cnt k ≤ cnt (k + d)
  | 0 => Nat.le_refl _
  | d + 1 => Nat.le_trans (cnt_mono k d) (by rw [← Nat.add_assoc]; simp only [cnt]; omega)
theorem cnt_310 : cnt 310 = 64 := by decide +kernel
theorem cnt_309 : cnt 309 = 63 := by decide +kernel
theorem cnt_end {k : Nat} (h : cnt k = 64) (hk : k ≤ 310) : k = 310 := by
  rcases Nat.lt_or_ge k 310 with h1 | h1
  · have := cnt_mono k (309 - k)
    rw [show k + (309 - k) = 309 by omega, cnt_309] at this
    omega
  · omega
theorem toN {a : Nat} (h : a < 18446744073709551616) : (BitVec.ofNat 64 a).toNat = a := by
  rw [BitVec.toNat_ofNat]; exact Nat.mod_eq_of_lt h
theorem sq_le {e n : Nat} (he : e < 65536) (hn : n < 65536) : (BitVec.ofNat 64 e * BitVec.ofNat 64 e ≤ BitVec.ofNat 64 n) ↔ e * e ≤ n := by
  have h1 : e * e < 65536 * 65536 := Nat.mul_lt_mul'' he he
  rw [BitVec.le_def, BitVec.toNat_mul, toN (by omega), toN (by omega), Nat.mod_eq_of_lt (by omega)]
theorem rem_iff {n e : Nat} (hn : n < 65536) (he : e < 65536) : (BitVec.ofNat 64 n % BitVec.ofNat 64 e = 0#64) ↔ n % e = 0 := by
  constructor
  · intro h
    have := congrArg BitVec.toNat h
    rw [BitVec.toNat_umod, toN (by omega), toN (by omega)] at this
    exact this
  · intro h
    apply BitVec.eq_of_toNat_eq
    rw [BitVec.toNat_umod, toN (by omega), toN (by omega), h]
    rfl
theorem ne_zero {e : Nat} (h1 : 0 < e) (h : e < 65536) : BitVec.ofNat 64 e ≠ 0#64 := by
  intro hc
  have := congrArg BitVec.toNat hc
  rw [toN (by omega)] at this
  simp at this
  omega
theorem ofN_succ (n : Nat) : BitVec.ofNat 64 n + 1#64 = BitVec.ofNat 64 (n + 1) := by
  rw [BitVec.ofNat_add]
theorem firstS_no (s : Nat → BitVec 32) {k : Nat} (h : isP (k + 2) = false) : firstS s (k + 1) = firstS s k := by
  funext i; simp [firstS, h]
theorem stepsS_no (s : Nat → BitVec 32) {k : Nat} (h : isP (k + 2) = false) : stepsS s (k + 1) = stepsS s k := by
  funext i; simp [stepsS, h]
theorem cnt_no {k : Nat} (h : isP (k + 2) = false) : cnt (k + 1) = cnt k := by simp [cnt, h]
theorem cnt_yes {k : Nat} (h : isP (k + 2) = true) : cnt (k + 1) = cnt k + 1 := by simp [cnt, h]
theorem firstS_yes (s : Nat → BitVec 32) {k : Nat} (h : isP (k + 2) = true) (h8 : cnt k < 8) (i : Nat) : firstS s (k + 1) i = if i = cnt k then (root sqFits (BitVec.ofNat 64 (k + 2))).setWidth 32 else firstS s k i := by
  simp [firstS, h, h8]
theorem firstS_late (s : Nat → BitVec 32) {k : Nat} (h8 : ¬ cnt k < 8) : firstS s (k + 1) = firstS s k := by
  funext i; simp [firstS, h8]
theorem stepsS_yes (s : Nat → BitVec 32) {k : Nat} (h : isP (k + 2) = true) (i : Nat) : stepsS s (k + 1) i = if i = cnt k then (root cuFits (BitVec.ofNat 64 (k + 2))).setWidth 32 else stepsS s k i := by
  simp [stepsS, h]
theorem cnt_lt {k : Nat} (h : cnt k < 64) : k < 310 := by
  rcases Nat.lt_or_ge k 310 with h1 | h1
  · exact h1
  · have := cnt_mono 310 (k - 310)
    rw [show 310 + (k - 310) = k by omega, cnt_310] at this
    omega
theorem stepsS_low (s : Nat → BitVec 32) : ∀ k i, stepsS s k i = if i < cnt k then stepsS (fun _ => 0#32) k i else s i
  | 0, i => by simp [stepsS, cnt]
  | k + 1, i => by
    by_cases hp : isP (k + 2) = true
    · have hc : cnt (k + 1) = cnt k + 1 := by simp [cnt, hp]
      simp only [stepsS, hp, hc]
      rw [stepsS_low s k i]
      by_cases hi : i = cnt k
      · simp [hi]
      · by_cases h1 : i < cnt k
        · have h2 : i < cnt k + 1 := by omega
          simp [hi, h1, h2]
        · have h2 : ¬ i < cnt k + 1 := by omega
          simp [hi, h1, h2]
    · have hp : isP (k + 2) = false := by simpa using hp
      have hc : cnt (k + 1) = cnt k := by simp [cnt, hp]
      simp only [stepsS, hp, hc]
      rw [stepsS_low s k i]
      simp
theorem firstS_low (s : Nat → BitVec 32) : ∀ k i, firstS s k i = if i < cnt k ∧ i < 8 then firstS (fun _ => 0#32) k i else s i
  | 0, i => by simp [firstS, cnt]
  | k + 1, i => by
    by_cases hp : isP (k + 2) = true
    · have hc : cnt (k + 1) = cnt k + 1 := by simp [cnt, hp]
      simp only [firstS, hp, hc]
      rw [firstS_low s k i]
      by_cases hi : i = cnt k
      · subst hi
        by_cases h8 : cnt k < 8
        · simp [h8]
        · simp [h8]
      · by_cases h1 : i < cnt k
        · have h2 : i < cnt k + 1 := by omega
          simp [hi, h1, h2]
        · have h2 : ¬ i < cnt k + 1 := by omega
          simp [hi, h1, h2]
    · have hp : isP (k + 2) = false := by simpa using hp
      have hc : cnt (k + 1) = cnt k := by simp [cnt, hp]
      simp only [firstS, hp, hc]
      rw [firstS_low s k i]
      simp
set_option maxRecDepth 100000 in
theorem steps_eq (s : Nat → BitVec 32) (i : Nat) (hi : i < 64) : stepsS s 310 i = steps i := by
  rw [stepsS_low, cnt_310, if_pos hi]
  exact (by decide +kernel : ∀ i, i < 64 → stepsS (fun _ => 0#32) 310 i = steps i) i hi
set_option maxRecDepth 100000 in
theorem first_eq (s : Nat → BitVec 32) (i : Nat) (hi : i < 8) : firstS s 310 i = first i := by
  rw [firstS_low, cnt_310, if_pos ⟨by omega, hi⟩]
  exact (by decide +kernel : ∀ i, i < 8 → firstS (fun _ => 0#32) 310 i = first i) i hi
theorem isP_of {n d : Nat} (h : noDiv n d) (hd : n < d * d) (hd2 : 2 ≤ d) : isP n = true := by
  unfold isP
  rw [List.all_eq_true]
  intro e he
  rw [Bool.or_eq_true, Bool.or_eq_true]
  by_cases h2 : e < 2
  · exact .inl (.inl (decide_eq_true h2))
  · by_cases h3 : e < d
    · refine .inr ?_
      have := h e (by omega) h3
      simpa using this
    · refine .inl (.inr (decide_eq_true ?_))
      have : d * d ≤ e * e := Nat.mul_le_mul (by omega) (by omega)
      omega
theorem not_isP {n d : Nat} (hd2 : 2 ≤ d) (hd : d * d ≤ n) (h20 : d < 20) (h : n % d = 0) : isP n = false := by
  cases e : isP n with
  | false => rfl
  | true =>
    unfold isP at e
    rw [List.all_eq_true] at e
    have := e d (List.mem_range.2 h20)
    rw [Bool.or_eq_true, Bool.or_eq_true] at this
    rcases this with (h1 | h1) | h1
    · have := of_decide_eq_true h1; omega
    · have := of_decide_eq_true h1; omega
    · simp [h] at h1
end Sha
end Go.Proofs.YtkjdkeolkigibaaGreat
end

section
/-
  SHA-256's tables, reckoned by the program. No condition.
-/
namespace Go.Proofs.YtkjdkeolkigibaaGreat
set_option linter.unusedVariables false
namespace Sx
open Sha

set_option maxRecDepth 20000 in
theorem fn_mul64 (x y : BitVec 64) : Fn Tryz.prog tds 113 [] [.c (.w64 x), .c (.w64 y)] (fun _ => True) (fun v hs => v = .tup [.c (.w64 (mul64 x y).1), .c (.w64 (mul64 x y).2)] ∧ hs = []) := by
  refine fn_of_body tds_ok follows_ Tryz.func113 rfl (t := .a (.c (.w64 x)) :: .a (.c (.w64 y)) :: anys 49) rfl (fun w r0 hr _ => ?_)
  obtain rfl : r0 = [] := List.eq_nil_of_length_eq_zero hr
  exact ⟨.tup [.c (.w64 (mul64 x y).1), .c (.w64 (mul64 x y).2)], [], ⟨[], ⟨rfl, rfl, rfl⟩, rfl, rfl, trivial⟩, rfl, rfl⟩
theorem fn_mul64' {x y hi lo : BitVec 64} (h : mul64 x y = (hi, lo)) : Fn Tryz.prog tds 113 [] [.c (.w64 x), .c (.w64 y)] (fun _ => True) (fun v hs => v = .tup [.c (.w64 hi), .c (.w64 lo)] ∧ hs = []) := by
  have := fn_mul64 x y
  rw [h] at this
  exact this
theorem fn_sqFits (x n : BitVec 64) : Fn Tryz.prog tds 102 [] [.c (.w64 x), .c (.w64 n)] (fun _ => True) (fun v hs => v = .a (.c (.bool (sqFits x n))) ∧ hs = []) := by
  refine fn_of_body tds_ok follows_ Tryz.func102 rfl (t := .a (.c (.w64 x)) :: .a (.c (.w64 n)) :: anys 23) rfl (fun w r0 hr _ => ?_)
  obtain rfl : r0 = [] := List.eq_nil_of_length_eq_zero hr
  obtain ⟨hi, lo, hm⟩ : ∃ hi lo, mul64 x x = (hi, lo) := ⟨_, _, rfl⟩
  refine ⟨by kernel_rfl, call_same (fn_mul64' hm) [] rfl ⟨rfl, rfl, trivial⟩ trivial (fun _ _ => trivial) ?_⟩
  rintro v hs ⟨rfl, rfl⟩
  have hres : sqFits x n = (decide (hi < n) || (decide (hi = n) && decide (lo = 0#64))) := by unfold sqFits; rw [hm]
  rw [hres]
  cases e1 : decide (hi < n) <;> cases e2 : decide (hi = n) <;> cases e3 : decide (lo = 0#64) <;> (repeat first | refine ⟨fun _ => ?_, fun h => absurd h (by rw [e1]; decide)⟩ | refine ⟨fun h => absurd h (by rw [e1]; decide), fun _ => ?_⟩ | refine ⟨fun _ => ?_, fun h => absurd h (by rw [e2]; decide)⟩ | refine ⟨fun h => absurd h (by rw [e2]; decide), fun _ => ?_⟩ | refine ⟨fun _ => ?_, fun h => absurd h (by rw [e3]; decide)⟩ | refine ⟨fun h => absurd h (by rw [e3]; decide), fun _ => ?_⟩ | refine ⟨fun _ => ?_, fun h => Bool.noConfusion h⟩ | refine ⟨fun h => Bool.noConfusion h, fun _ => ?_⟩) <;>
    exact ⟨.a (.c (.bool _)), [], ⟨[], ⟨rfl, rfl, rfl⟩, by first | (rw [e1]; done) | (rw [e2]; done) | (rw [e3]; done) | (rw [e1]; rfl) | (rw [e2]; rfl) | (rw [e3]; rfl) | rfl, trivial⟩, rfl, rfl⟩
set_option maxRecDepth 20000 in
theorem fn_cuFits (x n : BitVec 64) : Fn Tryz.prog tds 103 [] [.c (.w64 x), .c (.w64 n)] (fun _ => True) (fun v hs => v = .a (.c (.bool (cuFits x n))) ∧ hs = []) := by
  refine fn_of_body tds_ok follows_ Tryz.func103 rfl (t := .a (.c (.w64 x)) :: .a (.c (.w64 n)) :: anys 39) rfl (fun w r0 hr _ => ?_)
  obtain rfl : r0 = [] := List.eq_nil_of_length_eq_zero hr
  obtain ⟨hi, lo, hm⟩ : ∃ hi lo, mul64 x x = (hi, lo) := ⟨_, _, rfl⟩
  obtain ⟨ov, re, hm2⟩ : ∃ ov re, mul64 lo x = (ov, re) := ⟨_, _, rfl⟩
  refine ⟨by kernel_rfl, call_same (fn_mul64' hm) [] rfl ⟨rfl, rfl, trivial⟩ trivial (fun _ _ => trivial) ?_⟩
  rintro v hs ⟨rfl, rfl⟩
  refine ⟨by kernel_rfl, call_same (fn_mul64' hm2) [] rfl ⟨rfl, rfl, trivial⟩ trivial (fun _ _ => trivial) ?_⟩
  rintro v hs ⟨rfl, rfl⟩
  have hres : cuFits x n = (decide (hi * x + ov < n <<< 32) || (decide (hi * x + ov = n <<< 32) && decide (re = 0#64))) := by unfold cuFits cuTop; rw [hm]; simp only; rw [hm2]
  rw [hres]
  cases e1 : decide (hi * x + ov < n <<< 32) <;> cases e2 : decide (hi * x + ov = n <<< 32) <;> cases e3 : decide (re = 0#64) <;> (repeat first | refine ⟨fun _ => ?_, fun h => absurd h (by rw [e1]; decide)⟩ | refine ⟨fun h => absurd h (by rw [e1]; decide), fun _ => ?_⟩ | refine ⟨fun _ => ?_, fun h => absurd h (by rw [e2]; decide)⟩ | refine ⟨fun h => absurd h (by rw [e2]; decide), fun _ => ?_⟩ | refine ⟨fun _ => ?_, fun h => absurd h (by rw [e3]; decide)⟩ | refine ⟨fun h => absurd h (by rw [e3]; decide), fun _ => ?_⟩ | refine ⟨fun _ => ?_, fun h => Bool.noConfusion h⟩ | refine ⟨fun h => Bool.noConfusion h, fun _ => ?_⟩) <;>
    exact ⟨.a (.c (.bool _)), [], ⟨[], ⟨rfl, rfl, rfl⟩, by first | (rw [e1]; done) | (rw [e2]; done) | (rw [e3]; done) | (rw [e1]; rfl) | (rw [e2]; rfl) | (rw [e3]; rfl) | rfl, trivial⟩, rfl, rfl⟩
theorem fn_root {g : FuncId} {F : BitVec 64 → BitVec 64 → Bool} (hg : callable Tryz.prog g = true) (hF : ∀ x n, Fn Tryz.prog tds g [] [.c (.w64 x), .c (.w64 n)] (fun _ => True) (fun v hs => v = .a (.c (.bool (F x n))) ∧ hs = [])) (n : BitVec 64) :
    Fn Tryz.prog tds 101 [] [.c (.w64 n), .c (.fnv (.func g) #[] #[])] (fun _ => True) (fun v hs => v = .a (.c (.w64 (root F n))) ∧ hs = []) := by
  refine fn_of_body tds_ok follows_ Tryz.func101 rfl (t := .a (.c (.w64 n)) :: .a (.c (.fnv (.func g) #[] #[])) :: anys 21) rfl (fun w r0 hr _ => ?_)
  obtain rfl : r0 = [] := List.eq_nil_of_length_eq_zero hr
  refine .inl ⟨Nat, fun k => ⟨.a (.c (.w64 n)) :: .a (.c (.fnv (.func g) #[] #[])) :: .any :: .any :: .any :: .a (.c (.w64 (rootS F n k))) :: .a (.c (.int .i64 (34 - (k : Int)))) :: anys 16, []⟩, fun k => k ≤ 35, fun k => 35 - k, ⟨0, [], ⟨⟨rfl, rfl, rfl⟩, rfl, rfl, rfl, rfl, trivial⟩, by omega⟩, fun k hk => ⟨fun h => ?_, fun h => ?_⟩⟩
  · have hlt : 34 - (k : Int) ≥ 0 := of_decide_eq_true h
    have e : (BitVec.ofInt 64 (34 - (k : Int))).toNat = 34 - k := by
      rw [show 34 - (k : Int) = ((34 - k : Nat) : Int) by omega]
      exact cast64 (by omega)
    refine ⟨hg, call_same (hF _ _) [] rfl ⟨rfl, rfl, trivial⟩ trivial (fun _ _ => trivial) ?_⟩
    rintro v hs ⟨rfl, rfl⟩
    rw [e]
    refine ⟨fun h2 => ?_, fun h2 => ?_⟩
    all_goals
      refine ⟨⟨by omega, by omega⟩, k + 1, [], ⟨⟨rfl, rfl, rfl⟩, rfl, rfl, ?_, ?_, trivial⟩, by dsimp only; omega, by dsimp only; omega⟩
      · first | exact (if_pos h2).symm | exact (if_neg (by rw [h2]; decide)).symm
      · show 34 - (k : Int) - 1 = 34 - ((k + 1 : Nat) : Int)
        omega
  · obtain rfl : k = 35 := by have : ¬ 34 - (k : Int) ≥ 0 := of_decide_eq_false h; have hk : k ≤ 35 := hk; omega
    exact ⟨.a (.c (.w64 (root F n))), [], ⟨[], ⟨rfl, rfl, rfl⟩, rfl, trivial⟩, rfl, rfl⟩
/-- Tables of SHA-256: done or not, the lock, the first words, the steps. -/
abbrev shaT (d : BitVec 32) (m : Int) (f s : Nat → BitVec 32) : List Seg := [.one (.w32 d), .one (.int .i32 m), .one (.w32 0), .row 8 (fun i => .w32 (f i)), .row 64 (fun i => .w32 (s i))]
theorem eqC_w32 {q : List Nat} {x : SC} {b : BitVec 32} (h : x = .w32 b) : eqC q x (.w32 b) True := by subst h; exact ⟨rfl, trivial⟩
theorem fn_sfill (d : BitVec 32) (m : Int) (f s : Nat → BitVec 32) : Fn Tryz.prog tds 95 [shaT d m f s] [.c (.p 0 0 0)] (fun _ => True) (fun x hs => x = .tup [] ∧ hs = [shaT d m first steps]) := by
  refine fn_of_body tds_ok follows_ Tryz.func95 rfl (t := .a (.c (.p 0 0 0)) :: anys 39) rfl (fun w r0 hr _ => ?_)
  obtain ⟨x0, rfl⟩ := List.length_eq_one_iff.1 hr
  refine .inl ⟨Nat, fun k => ⟨.a (.c (.p 0 0 0)) :: .any :: .a (.c (.int .i64 (cnt k : Int))) :: .a (.c (.w64 (BitVec.ofNat 64 (k + 2)))) :: anys 36, [shaT d m (firstS f k) (stepsS s k)]⟩, fun k => cnt k ≤ 64 ∧ k ≤ 310, fun k => 310 - k, ⟨0, [0], ⟨⟨rfl, rfl, rfl⟩, ?_⟩, by decide⟩, fun k hk => ⟨fun h => ?_, fun h => ?_⟩⟩
  · (repeat first | exact trivial | refine ⟨rfl, ?_⟩ | refine ⟨fun _ _ => ⟨rfl, trivial⟩, ?_⟩ | refine ⟨by omega, ?_⟩)
  · have hlt : (cnt k : Int) < 64 := of_decide_eq_true h
    have hk310 := cnt_lt (show cnt k < 64 by omega)
    refine .inl ⟨Nat, fun e => ⟨.a (.c (.p 0 0 0)) :: .any :: .a (.c (.int .i64 (cnt k : Int))) :: .a (.c (.w64 (BitVec.ofNat 64 (k + 2)))) :: .a (.c (.w64 (BitVec.ofNat 64 e))) :: anys 35, [shaT d m (firstS f k) (stepsS s k)]⟩, fun e => 2 ≤ e ∧ e < 19 ∧ noDiv (k + 2) e, fun e => 20 - e, ⟨2, [0], ⟨⟨rfl, rfl, rfl⟩, ?_⟩, by omega, by omega, fun e h1 h2 => by omega⟩, fun e he => ⟨fun h => ?_, fun h => ?_⟩⟩
    · (repeat first | exact trivial | refine ⟨rfl, ?_⟩ | refine ⟨fun _ _ => ⟨rfl, trivial⟩, ?_⟩ | refine ⟨by omega, ?_⟩)
    · have hle := (sq_le (by omega) (by omega)).1 (of_decide_eq_true h)
      obtain ⟨he2, he19, hnd⟩ := he
      have he18 : e < 18 := by
        rcases Nat.lt_or_ge e 18 with h1 | h1
        · exact h1
        · have := Nat.mul_le_mul h1 h1; omega
      refine ⟨ne_zero (by omega) (by omega), fun h2 => ?_, fun h2 => ?_⟩
      · have hp := not_isP he2 hle (by omega) ((rem_iff (by omega) (by omega)).1 (of_decide_eq_true h2))
        refine ⟨k + 1, [0], ⟨⟨rfl, rfl, rfl⟩, ?_⟩, ⟨by rw [cnt_no hp]; omega, by omega⟩, by dsimp only; omega⟩
        refine ⟨rfl, by rw [cnt_no hp], ofN_succ (k + 2), ?_⟩
        (repeat first | exact trivial | refine ⟨rfl, ?_⟩ | refine ⟨fun _ _ => ⟨rfl, trivial⟩, ?_⟩ | refine ⟨by omega, ?_⟩)
        exact ⟨fun j hj => eqC_w32 (by rw [firstS_no f hp]), rfl, fun j hj => eqC_w32 (by rw [stepsS_no s hp]), trivial⟩
      · have hr : (k + 2) % e ≠ 0 := fun hc => of_decide_eq_false h2 ((rem_iff (by omega) (by omega)).2 hc)
        refine ⟨e + 1, [0], ⟨⟨rfl, rfl, rfl⟩, ?_⟩, ⟨by omega, by omega, fun d h3 h4 => ?_⟩, by dsimp only; omega⟩
        · refine ⟨rfl, rfl, rfl, ofN_succ e, ?_⟩
          (repeat first | exact trivial | refine ⟨rfl, ?_⟩ | refine ⟨fun _ _ => ⟨rfl, trivial⟩, ?_⟩ | refine ⟨by omega, ?_⟩)
        · by_cases hde : d = e
          · subst hde; exact hr
          · exact hnd d h3 (by omega)
    · obtain ⟨he2, he19, hnd⟩ := he
      have hgt : k + 2 < e * e := by
        have := mt (sq_le (e := e) (n := k + 2) (by omega) (by omega)).2 (of_decide_eq_false h)
        omega
      have hp := isP_of hnd hgt he2
      have last : ∀ (g : Nat → SC) (v : SC), (v = .w32 ((root cuFits (BitVec.ofNat 64 (k + 2))).setWidth 32)) → (∀ j, g j = .w32 (stepsS s k j)) → ∀ j, eqC [0] (upd g (cnt k) v j) (.w32 (stepsS s (k + 1) j)) True := fun g v hv hg j => eqC_w32 (by
        unfold upd
        rw [stepsS_yes s hp j]
        by_cases hj : j = cnt k
        · rw [if_pos hj, if_pos hj, hv]
        · rw [if_neg hj, if_neg hj, hg])
      have e0 : (cnt k : Int).toNat + 0 = cnt k := by omega
      refine ⟨fun h8 => ?_, fun h8 => ?_⟩
      · have h8' : cnt k < 8 := by have := of_decide_eq_true h8; omega
        refine ⟨some [0], [], [(0, true), (1, true), (2, true), (5, true), (6, true), (3, false), (4, true), (7, true)], [8], by kernel_rfl, ?_⟩
        refine ⟨by kernel_rfl, call_same (fn_root (by kernel_rfl) fn_sqFits (BitVec.ofNat 64 (k + 2))) [] rfl ⟨rfl, rfl, trivial⟩ trivial (fun _ _ => trivial) ?_⟩
        rintro v hs ⟨rfl, rfl⟩
        refine ⟨⟨by omega, by omega⟩, by omega, rfl, ?_⟩
        refine ⟨some [0], [], [(0, true), (1, true), (2, true), (5, true), (6, true), (3, false), (4, true), (7, true)], [8], by kernel_rfl, ?_⟩
        refine ⟨by kernel_rfl, call_same (fn_root (by kernel_rfl) fn_cuFits (BitVec.ofNat 64 (k + 2))) [] rfl ⟨rfl, rfl, trivial⟩ trivial (fun _ _ => trivial) ?_⟩
        rintro v hs ⟨rfl, rfl⟩
        refine ⟨⟨by omega, by omega⟩, by omega, rfl, ⟨by omega, by omega⟩, ?_⟩
        refine ⟨k + 1, [0], ⟨⟨rfl, rfl, rfl⟩, ?_⟩, ⟨by rw [cnt_yes hp]; omega, by omega⟩, by dsimp only; omega⟩
        refine ⟨rfl, by rw [cnt_yes hp]; rfl, ofN_succ (k + 2), ?_⟩
        (repeat first | exact trivial | refine ⟨rfl, ?_⟩ | refine ⟨fun _ _ => ⟨rfl, trivial⟩, ?_⟩ | refine ⟨by omega, ?_⟩)
        refine ⟨fun j hj => ?_, rfl, fun j hj => ?_, trivial⟩
        · rw [e0]
          refine eqC_w32 ?_
          unfold upd
          rw [firstS_yes f hp h8' j]
          by_cases hj : j = cnt k
          · rw [if_pos hj, if_pos hj]
          · rw [if_neg hj, if_neg hj]
        · rw [e0]
          exact last _ _ rfl (fun _ => rfl) j
      · have h8' : ¬ cnt k < 8 := by have := of_decide_eq_false h8; omega
        refine ⟨some [0], [], [(0, true), (1, true), (2, true), (5, true), (6, true), (3, false), (4, true), (7, true)], [8], by kernel_rfl, ?_⟩
        refine ⟨by kernel_rfl, call_same (fn_root (by kernel_rfl) fn_cuFits (BitVec.ofNat 64 (k + 2))) [] rfl ⟨rfl, rfl, trivial⟩ trivial (fun _ _ => trivial) ?_⟩
        rintro v hs ⟨rfl, rfl⟩
        refine ⟨⟨by omega, by omega⟩, by omega, rfl, ⟨by omega, by omega⟩, ?_⟩
        refine ⟨k + 1, [0], ⟨⟨rfl, rfl, rfl⟩, ?_⟩, ⟨by rw [cnt_yes hp]; omega, by omega⟩, by dsimp only; omega⟩
        refine ⟨rfl, by rw [cnt_yes hp]; rfl, ofN_succ (k + 2), ?_⟩
        (repeat first | exact trivial | refine ⟨rfl, ?_⟩ | refine ⟨fun _ _ => ⟨rfl, trivial⟩, ?_⟩ | refine ⟨by omega, ?_⟩)
        refine ⟨fun j hj => eqC_w32 (by rw [firstS_late f h8']), rfl, fun j hj => ?_, trivial⟩
        rw [e0]
        exact last _ _ rfl (fun _ => rfl) j
  · have h64 : cnt k = 64 := by have : ¬ (cnt k : Int) < 64 := of_decide_eq_false h; have := hk.1; omega
    have hk' := cnt_end h64 hk.2
    have hF : ∀ j, j < 8 → firstS f k j = first j := fun j hj => by rw [hk']; exact first_eq f j hj
    have hS : ∀ j, j < 64 → stepsS s k j = steps j := fun j hj => by rw [hk']; exact steps_eq s j hj
    refine ⟨.tup [], [shaT d m first steps], ⟨[0], ⟨rfl, rfl, rfl⟩, ?_⟩, rfl, rfl⟩
    (repeat first | exact trivial | refine ⟨rfl, ?_⟩ | refine ⟨fun _ _ => ⟨rfl, trivial⟩, ?_⟩ | refine ⟨by omega, ?_⟩)
    refine ⟨fun j hj => eqC_w32 (congrArg SC.w32 (hF j hj)), rfl, fun j hj => eqC_w32 (congrArg SC.w32 (hS j hj)), trivial⟩
end Sx
end Go.Proofs.YtkjdkeolkigibaaGreat
end

section
/-
  SHA-256's rounds as the program makes them: plain functions. No condition.
-/
namespace Go.Proofs.YtkjdkeolkigibaaGreat
set_option linter.unusedVariables false
namespace Sha

/-- Turned right. -/
def ror (x : BitVec 32) (n : Nat) : BitVec 32 := x <<< (32 - n) ||| x >>> n
def w0 (P : Nat → BitVec 8) (i : Nat) : BitVec 32 :=
  (P (4 * i)).setWidth 32 <<< 24 ||| (P (4 * i + 1)).setWidth 32 <<< 16 ||| (P (4 * i + 2)).setWidth 32 <<< 8 ||| (P (4 * i + 3)).setWidth 32
def sig0 (x : BitVec 32) : BitVec 32 := ror x 7 ^^^ ror x 18 ^^^ x >>> 3
def sig1 (y : BitVec 32) : BitVec 32 := ror y 17 ^^^ ror y 19 ^^^ y >>> 10
/-- The schedule's array, k words behind the first sixteen. -/
def wS (P : Nat → BitVec 8) : Nat → Nat → BitVec 32
  | 0, i => if i < 16 then w0 P i else 0#32
  | k + 1, i => if i = 16 + k then wS P k k + sig0 (wS P k (k + 1)) + wS P k (k + 9) + sig1 (wS P k (k + 14)) else wS P k i
def one (v : Nat → BitVec 32) (kw w : BitVec 32) : BitVec 32 :=
  v 7 + (ror (v 4) 6 ^^^ ror (v 4) 11 ^^^ ror (v 4) 25) + ((v 4 &&& v 5) ^^^ (~~~(v 4) &&& v 6)) + kw + w
def two (v : Nat → BitVec 32) : BitVec 32 :=
  (ror (v 0) 2 ^^^ ror (v 0) 13 ^^^ ror (v 0) 22) + ((v 0 &&& v 1) ^^^ (v 0 &&& v 2) ^^^ (v 1 &&& v 2))
def next (v : Nat → BitVec 32) (kw w : BitVec 32) : Nat → BitVec 32
  | 0 => one v kw w + two v
  | 4 => v 3 + one v kw w
  | i + 1 => v i
/-- k rounds. -/
def vR (W : Nat → BitVec 32) (v : Nat → BitVec 32) : Nat → Nat → BitVec 32
  | 0 => v
  | k + 1 => next (vR W v k) (steps k) (W k)
def compress (V : Nat → BitVec 32) (P : Nat → BitVec 8) (i : Nat) : BitVec 32 := V i + vR (wS P 48) V 64 i
end Sha
end Go.Proofs.YtkjdkeolkigibaaGreat
end

section
/-
  SHA-256: words turned; tables begun with. No condition.
-/
namespace Go.Proofs.YtkjdkeolkigibaaGreat
set_option linter.unusedVariables false
namespace Sx
open Sha

theorem ror_amt : ∀ n : Nat, n < 32 → 0 < n → ((BitVec.ofInt 64 (-(n : Int))) &&& 31#64).toNat = 32 - n ∧ (32#64 - ((BitVec.ofInt 64 (-(n : Int))) &&& 31#64)).toNat = n := by decide +kernel
set_option maxRecDepth 20000 in
theorem fn_rot32 (x : BitVec 32) (n : Nat) (h : n < 32) (h0 : 0 < n) : Fn Tryz.prog tds 104 [] [.c (.w32 x), .c (.int .i64 (-(n : Int)))] (fun _ => True) (fun v hs => v = .a (.c (.w32 (ror x n))) ∧ hs = []) := by
  refine fn_of_body tds_ok follows_ Tryz.func104 rfl (t := .a (.c (.w32 x)) :: .a (.c (.int .i64 (-(n : Int)))) :: anys (Tryz.f104.ntmps - 2)) rfl (fun w r0 hr _ => ?_)
  obtain rfl : r0 = [] := List.eq_nil_of_length_eq_zero hr
  obtain ⟨e1, e2⟩ := ror_amt n h h0
  refine ⟨.a (.c (.w32 (ror x n))), [], ⟨[], ⟨rfl, rfl, rfl⟩, ?_, trivial⟩, rfl, rfl⟩
  show x <<< _ ||| x >>> _ = x <<< (32 - n) ||| x >>> n
  rw [e1, e2]
/-- A sum in the making: whose tables, the words, the bytes that wait, how many they are, how many there were in all. -/
abbrev digC (i : Nat) (V : Nat → BitVec 32) (P : Nat → BitVec 8) (h : Int) (a : BitVec 64) : List Seg := [.one (.p i 0 0), .row 8 (fun j => .w32 (V j)), .row 64 (fun j => .w8 (P j)), .one (.int .i64 h), .one (.w64 a)]
theorem fn_sdo (d : BitVec 32) (f s : Nat → BitVec 32) (hd : d = 0#32 ∨ d = 1#32 ∧ f = first ∧ s = steps) : Fn Tryz.prog tds 40 [shaT d 0 f s] [.c (.p 0 0 0), .c (.clo 95 0 0 0)] (fun _ => True) (fun x hs => x = .tup [] ∧ hs = [shaT 1 0 first steps]) := by
  rcases hd with rfl | ⟨rfl, rfl, rfl⟩
  · exact fn_once (by kernel_rfl) (fn_sfill 0#32 1 f s)
  · exact fn_once_done
theorem fn_begin (d : BitVec 32) (f s : Nat → BitVec 32) (hd : d = 0#32 ∨ d = 1#32 ∧ f = first ∧ s = steps) : Fn Tryz.prog tds 83 [shaT d 0 f s] [.c (.p 0 0 0)] (fun _ => True) (fun x hs => x = .a (.agg (digC 0 first (fun _ => 0#8) 0 0)) ∧ hs = [shaT 1 0 first steps]) := by
  refine fn_of_body tds_ok follows_ Tryz.func83 rfl (t := .a (.c (.p 0 0 0)) :: anys 14) rfl (fun w r0 hr _ => ?_)
  obtain ⟨x0, rfl⟩ := List.length_eq_one_iff.1 hr
  refine ⟨by kernel_rfl, call_same (fn_sdo d f s hd) [0] rfl ⟨rfl, rfl, rfl, trivial⟩ (by (repeat first | exact trivial | refine ⟨rfl, ?_⟩ | refine ⟨fun _ _ => ⟨rfl, trivial⟩, ?_⟩ | refine ⟨by omega, ?_⟩)) (fun _ _ => trivial) ?_⟩
  rintro x hs ⟨rfl, rfl⟩
  (repeat first | refine ⟨by omega, ?_⟩ | refine ⟨by decide, ?_⟩ | refine ⟨idx8 _, ?_⟩ | refine ⟨lt8 (Nat.le_refl _) _, ?_⟩ | refine ⟨rfl, ?_⟩)
  refine ⟨.a (.agg (digC 0 first (fun _ => 0#8) 0 0)), [shaT 1 0 first steps], ⟨[0], ⟨rfl, rfl, rfl⟩, ?_⟩, rfl, rfl⟩
  (repeat first | exact trivial | refine ⟨rfl, ?_⟩ | refine ⟨fun _ _ => ⟨rfl, trivial⟩, ?_⟩ | refine ⟨by omega, ?_⟩)
end Sx
end Go.Proofs.YtkjdkeolkigibaaGreat
end

section
/-
  SHA-256: one block gone through. No condition.
-/
namespace Go.Proofs.YtkjdkeolkigibaaGreat
set_option linter.unusedVariables false
namespace Sx
open Sha

theorem upd_w32 {f g : Nat → SC} {k : Nat} {v : SC} (hv : v = g k) (hf : ∀ j, j ≠ k → f j = g j) (j : Nat) : upd f k v j = g j := by
  unfold upd
  split
  · rename_i h; rw [h, hv]
  · rename_i h; exact hf j h
set_option maxHeartbeats 4000000 in
set_option maxRecDepth 20000 in
theorem fn_smix (V : Nat → BitVec 32) (P : Nat → BitVec 8) (hv : Int) (a : BitVec 64) :
    FnR Tryz.prog tds 96 1 [shaT 1 0 first steps, digC 0 V P hv a] [.c (.p 1 0 0)] (fun _ => True) (fun x hs => x = .tup [] ∧ hs = [shaT 1 0 first steps, digC 0 (compress V P) P hv a]) := by
  refine fn_of_body tds_ok follows_ Tryz.func96 rfl (t := .a (.c (.p 1 0 0)) :: anys 206) rfl (fun w r0 hr _ => ?_)
  obtain ⟨x0, x1, rfl⟩ := len2' hr
  refine .inl ⟨Nat, fun k => ⟨.a (.c (.p 1 0 0)) :: .any :: .a (.c (.p 2 0 0)) :: (anys 20 ++ (.a (.c (.int .i64 (k : Int))) :: anys 183)), [shaT 1 0 first steps, digC 0 V P hv a, [.row 64 fun i => .w32 (if i < k then w0 P i else 0#32)]]⟩, fun k => k ≤ 16, fun k => 16 - k, ⟨0, [0, 1, 2], ⟨⟨rfl, rfl, rfl⟩, ?_⟩, by omega⟩, fun k hk => ⟨fun h => ?_, fun h => ?_⟩⟩
  · (repeat first | exact trivial | refine ⟨rfl, ?_⟩ | refine ⟨fun _ _ => ⟨rfl, trivial⟩, ?_⟩ | refine ⟨by omega, ?_⟩)
  · have hlt : (k : Int) < 16 := of_decide_eq_true h
    (repeat first | refine ⟨by omega, ?_⟩ | refine ⟨by decide, ?_⟩ | refine ⟨idx8 _, ?_⟩ | refine ⟨lt8 (Nat.le_refl _) _, ?_⟩ | refine ⟨rfl, ?_⟩)
    have e4 : (4 * (k : Int)).toNat = 4 * k := by omega
    have e64 : ((64 : Nat) : Int).toNat = 64 := rfl
    simp only [frcN_eq, e4, e64, if_neg (show ¬ 64 = 4 * k by omega)]
    refine ⟨none, [], [(0, true), (1, true), (2, true), (3, true), (4, true), (5, true), (6, true), (7, true), (8, true), (9, true), (10, true), (11, true), (12, true), (13, true), (14, true), (15, true), (16, true), (17, true), (18, true), (19, true), (20, true), (21, true), (22, true), (23, true)], [24], by kernel_rfl, ?_⟩
    repeat first
      | refine ⟨by omega, ?_⟩
    refine ⟨rfl, ⟨by omega, by omega⟩, k + 1, [0, 1, 2], ⟨⟨rfl, rfl, rfl⟩, ?_⟩, by first | omega | (dsimp only; omega), by first | omega | (dsimp only; omega)⟩
    (repeat first | exact trivial | refine ⟨rfl, ?_⟩ | refine ⟨fun _ _ => ⟨rfl, trivial⟩, ?_⟩ | refine ⟨by omega, ?_⟩)
    refine ⟨fun j hj => ?_, trivial⟩
    have e0 : (k : Int).toNat + 0 = k := by omega
    have i0 : Int.toNat 0 + (0 + 4 * k * 1) = 4 * k := by omega
    have i1 : Int.toNat 1 + (0 + 4 * k * 1) = 4 * k + 1 := by omega
    have i2 : Int.toNat 2 + (0 + 4 * k * 1) = 4 * k + 2 := by omega
    have i3 : Int.toNat 3 + (0 + 4 * k * 1) = 4 * k + 3 := by omega
    rw [e0, i0, i1, i2, i3]
    refine eqC_w32 ((upd_w32 (g := fun i => .w32 (if i < k + 1 then w0 P i else 0#32)) ?_ ?_ j).trans rfl)
    · simp only [if_pos (show k < k + 1 by omega)]
      rfl
    · intro j hjk
      have : j < k + 1 ↔ j < k := by omega
      simp only [this]
  · obtain rfl : k = 16 := by have : ¬ (k : Int) < 16 := of_decide_eq_false h; have hk : k ≤ 16 := hk; omega
    refine .inl ⟨Nat, fun k => ⟨.a (.c (.p 1 0 0)) :: .any :: .a (.c (.p 2 0 0)) :: .any :: .any :: .a (.c (.int .i64 ((16 + k : Nat) : Int))) :: anys 201, [shaT 1 0 first steps, digC 0 V P hv a, [.row 64 fun i => .w32 (wS P k i)]]⟩, fun k => k ≤ 48, fun k => 48 - k, ⟨0, [0, 1, 2], ⟨⟨rfl, rfl, rfl⟩, ?_⟩, by omega⟩, fun k hk => ⟨fun h => ?_, fun h => ?_⟩⟩
    · (repeat first | exact trivial | refine ⟨rfl, ?_⟩ | refine ⟨fun _ _ => ⟨rfl, trivial⟩, ?_⟩ | refine ⟨by omega, ?_⟩)
    · have hlt : ((16 + k : Nat) : Int) < 64 := of_decide_eq_true h
      refine ⟨none, [], [(0, true), (1, true), (2, true), (3, true), (4, true), (5, true), (6, true), (7, true), (8, true), (9, true)], [], by kernel_rfl, ?_⟩
      (repeat first | refine ⟨by omega, ?_⟩ | refine ⟨by decide, ?_⟩ | refine ⟨idx8 _, ?_⟩ | refine ⟨lt8 (Nat.le_refl _) _, ?_⟩)
      refine ⟨by kernel_rfl, call_same (fn_rot32 _ 7 (by omega) (by omega)) [] rfl ⟨rfl, rfl, trivial⟩ trivial (fun _ _ => trivial) ?_⟩
      rintro v hs ⟨rfl, rfl⟩
      refine ⟨by kernel_rfl, call_same (fn_rot32 _ 18 (by omega) (by omega)) [] rfl ⟨rfl, rfl, trivial⟩ trivial (fun _ _ => trivial) ?_⟩
      rintro v hs ⟨rfl, rfl⟩
      refine ⟨by kernel_rfl, call_same (fn_rot32 _ 17 (by omega) (by omega)) [] rfl ⟨rfl, rfl, trivial⟩ trivial (fun _ _ => trivial) ?_⟩
      rintro v hs ⟨rfl, rfl⟩
      refine ⟨by kernel_rfl, call_same (fn_rot32 _ 19 (by omega) (by omega)) [] rfl ⟨rfl, rfl, trivial⟩ trivial (fun _ _ => trivial) ?_⟩
      rintro v hs ⟨rfl, rfl⟩
      refine ⟨none, [], [(0, true), (1, true), (2, true), (3, true), (4, true), (5, true), (6, true), (7, true), (8, true), (9, true), (10, true), (11, true), (12, true), (13, true), (14, true)], [15], by kernel_rfl, ?_⟩
      (repeat first | refine ⟨by omega, ?_⟩ | refine ⟨by decide, ?_⟩ | refine ⟨idx8 _, ?_⟩ | refine ⟨lt8 (Nat.le_refl _) _, ?_⟩)
      refine ⟨rfl, ⟨by omega, by omega⟩, k + 1, [0, 1, 2], ⟨⟨rfl, rfl, rfl⟩, ?_⟩, by first | omega | (dsimp only; omega), by first | omega | (dsimp only; omega)⟩
      (repeat first | exact trivial | refine ⟨rfl, ?_⟩ | refine ⟨fun _ _ => ⟨rfl, trivial⟩, ?_⟩ | refine ⟨by omega, ?_⟩)
      refine ⟨fun j hj => ?_, trivial⟩
      have j0 : ((16 + k : Nat) : Int).toNat + 0 = 16 + k := by omega
      have j1 : (((16 + k : Nat) : Int) - 16).toNat + 0 = k := by omega
      have j2 : (((16 + k : Nat) : Int) - 15).toNat + 0 = k + 1 := by omega
      have j3 : (((16 + k : Nat) : Int) - 7).toNat + 0 = k + 9 := by omega
      have j4 : (((16 + k : Nat) : Int) - 2).toNat + 0 = k + 14 := by omega
      rw [j0, j1, j2, j3, j4]
      refine eqC_w32 ((upd_w32 (g := fun i => .w32 (wS P (k + 1) i)) ?_ ?_ j).trans rfl)
      · simp only [wS]
        rfl
      · intro i hi
        simp only [wS, if_neg hi]
    · obtain rfl : k = 48 := by have : ¬ ((16 + k : Nat) : Int) < 64 := of_decide_eq_false h; have hk : k ≤ 48 := hk; omega
      obtain ⟨W, hW⟩ : ∃ W, wS P 48 = W := ⟨_, rfl⟩
      rw [hW]
      (repeat first | refine ⟨by omega, ?_⟩ | refine ⟨by decide, ?_⟩ | refine ⟨idx8 _, ?_⟩ | refine ⟨lt8 (Nat.le_refl _) _, ?_⟩ | refine ⟨rfl, ?_⟩)
      refine .inl ⟨Nat, fun k => ⟨.a (.c (.p 1 0 0)) :: .any :: .a (.c (.p 2 0 0)) :: (anys 7 ++ (.a (.c (.p 3 0 0)) :: (anys 93 ++ (.a (.c (.int .i64 (k : Int))) :: anys 102)))), [shaT 1 0 first steps, digC 0 V P hv a, [.row 64 fun i => .w32 (W i)], [.row 8 fun i => .w32 (vR W V k i)]]⟩, fun k => k ≤ 64, fun k => 64 - k, ⟨0, [0, 1, 2, 3], ⟨⟨rfl, rfl, rfl⟩, ?_⟩, by omega⟩, fun k hk => ⟨fun h => ?_, fun h => ?_⟩⟩
      · (repeat first | exact trivial | refine ⟨rfl, ?_⟩ | refine ⟨fun _ _ => ⟨rfl, trivial⟩, ?_⟩ | refine ⟨by omega, ?_⟩)
      · have hlt : (k : Int) < 64 := of_decide_eq_true h
        obtain ⟨v, hv⟩ : ∃ v, vR W V k = v := ⟨_, rfl⟩
        rw [hv]
        refine ⟨none, [], [(0, true), (1, true), (2, true), (3, true), (4, true), (5, true), (6, true), (7, true), (8, true), (9, true), (10, true), (11, true), (12, true), (13, true), (14, true), (15, true), (16, true), (17, true)], [], by kernel_rfl, ?_⟩
        (repeat first | refine ⟨by omega, ?_⟩ | refine ⟨by decide, ?_⟩ | refine ⟨idx8 _, ?_⟩ | refine ⟨lt8 (Nat.le_refl _) _, ?_⟩)
        refine ⟨by kernel_rfl, call_same (fn_rot32 _ 6 (by omega) (by omega)) [] rfl ⟨rfl, rfl, trivial⟩ trivial (fun _ _ => trivial) ?_⟩
        rintro v hs ⟨rfl, rfl⟩
        refine ⟨by kernel_rfl, call_same (fn_rot32 _ 11 (by omega) (by omega)) [] rfl ⟨rfl, rfl, trivial⟩ trivial (fun _ _ => trivial) ?_⟩
        rintro v hs ⟨rfl, rfl⟩
        refine ⟨by kernel_rfl, call_same (fn_rot32 _ 25 (by omega) (by omega)) [] rfl ⟨rfl, rfl, trivial⟩ trivial (fun _ _ => trivial) ?_⟩
        rintro v hs ⟨rfl, rfl⟩
        refine ⟨none, [], [(0, true), (1, true), (2, true), (3, true), (4, true), (5, true), (6, true), (7, true), (8, true), (9, true), (10, true), (11, true), (12, true), (13, true), (14, true), (15, true), (16, true), (17, true), (18, true), (19, true), (20, true), (21, true), (22, true), (23, true), (24, true), (25, true), (26, true), (27, true)], [], by kernel_rfl, ?_⟩
        (repeat first | refine ⟨by omega, ?_⟩ | refine ⟨by decide, ?_⟩ | refine ⟨idx8 _, ?_⟩ | refine ⟨lt8 (Nat.le_refl _) _, ?_⟩)
        refine ⟨by kernel_rfl, call_same (fn_rot32 _ 2 (by omega) (by omega)) [] rfl ⟨rfl, rfl, trivial⟩ trivial (fun _ _ => trivial) ?_⟩
        rintro v hs ⟨rfl, rfl⟩
        refine ⟨by kernel_rfl, call_same (fn_rot32 _ 13 (by omega) (by omega)) [] rfl ⟨rfl, rfl, trivial⟩ trivial (fun _ _ => trivial) ?_⟩
        rintro v hs ⟨rfl, rfl⟩
        refine ⟨by kernel_rfl, call_same (fn_rot32 _ 22 (by omega) (by omega)) [] rfl ⟨rfl, rfl, trivial⟩ trivial (fun _ _ => trivial) ?_⟩
        rintro v hs ⟨rfl, rfl⟩
        (repeat first | refine ⟨by omega, ?_⟩ | refine ⟨by decide, ?_⟩ | refine ⟨idx8 _, ?_⟩ | refine ⟨lt8 (Nat.le_refl _) _, ?_⟩)
        refine ⟨rfl, ⟨by omega, by omega⟩, k + 1, [0, 1, 2, 3], ⟨⟨rfl, rfl, rfl⟩, ?_⟩, by first | omega | (dsimp only; omega), by first | omega | (dsimp only; omega)⟩
        (repeat first | exact trivial | refine ⟨rfl, ?_⟩ | refine ⟨fun _ _ => ⟨rfl, trivial⟩, ?_⟩ | refine ⟨by omega, ?_⟩)
        refine ⟨fun j hj => ?_, trivial⟩
        have e0 : (k : Int).toNat + 0 = k := by omega
        rw [e0, show vR W V (k + 1) = next v (steps k) (W k) by simp only [vR, hv]]
        have hj8 : j = 0 ∨ j = 1 ∨ j = 2 ∨ j = 3 ∨ j = 4 ∨ j = 5 ∨ j = 6 ∨ j = 7 := by omega
        rcases hj8 with rfl | rfl | rfl | rfl | rfl | rfl | rfl | rfl <;> exact ⟨rfl, trivial⟩
      · obtain rfl : k = 64 := by have : ¬ (k : Int) < 64 := of_decide_eq_false h; have hk : k ≤ 64 := hk; omega
        obtain ⟨v, hv'⟩ : ∃ v, vR W V 64 = v := ⟨_, rfl⟩
        rw [hv']
        refine .inl ⟨Nat, fun k => ⟨.a (.c (.p 1 0 0)) :: .any :: .a (.c (.p 2 0 0)) :: (anys 7 ++ (.a (.c (.p 3 0 0)) :: (anys 179 ++ (.a (.c (.int .i64 (k : Int))) :: anys 16)))), [shaT 1 0 first steps, digC 0 (fun i => if i < k then V i + v i else V i) P hv a, [.row 64 fun i => .w32 (W i)], [.row 8 fun i => .w32 (v i)]]⟩, fun k => k ≤ 8, fun k => 8 - k, ⟨0, [0, 1, 2, 3], ⟨⟨rfl, rfl, rfl⟩, ?_⟩, by omega⟩, fun k hk => ⟨fun h => ?_, fun h => ?_⟩⟩
        · (repeat first | exact trivial | refine ⟨rfl, ?_⟩ | refine ⟨fun _ _ => ⟨rfl, trivial⟩, ?_⟩ | refine ⟨by omega, ?_⟩)
        · have hlt : (k : Int) < 8 := of_decide_eq_true h
          refine ⟨none, [], [(0, true), (1, true), (2, true), (3, true), (4, true), (5, true), (6, true), (7, true), (8, true), (9, true), (10, true), (11, true), (12, true)], [13], by kernel_rfl, ?_⟩
          (repeat first | refine ⟨by omega, ?_⟩ | refine ⟨by decide, ?_⟩ | refine ⟨idx8 _, ?_⟩ | refine ⟨lt8 (Nat.le_refl _) _, ?_⟩)
          refine ⟨rfl, ⟨by omega, by omega⟩, k + 1, [0, 1, 2, 3], ⟨⟨rfl, rfl, rfl⟩, ?_⟩, by first | omega | (dsimp only; omega), by first | omega | (dsimp only; omega)⟩
          (repeat first | exact trivial | refine ⟨rfl, ?_⟩ | refine ⟨fun _ _ => ⟨rfl, trivial⟩, ?_⟩ | refine ⟨by omega, ?_⟩)
          have e0 : (k : Int).toNat + 0 = k := by omega
          refine ⟨fun j hj => ?_, ?_⟩
          · rw [e0]
            refine eqC_w32 ((upd_w32 (g := fun i => .w32 (if i < k + 1 then V i + v i else V i)) ?_ ?_ j).trans rfl)
            · simp only [if_pos (show k < k + 1 by omega), if_neg (Nat.lt_irrefl k)]
            · intro i hi
              have : i < k + 1 ↔ i < k := by omega
              simp only [this]
          · (repeat first | exact trivial | refine ⟨rfl, ?_⟩ | refine ⟨fun _ _ => ⟨rfl, trivial⟩, ?_⟩ | refine ⟨by omega, ?_⟩)
        · obtain rfl : k = 8 := by have : ¬ (k : Int) < 8 := of_decide_eq_false h; have hk : k ≤ 8 := hk; omega
          refine ⟨.tup [], [shaT 1 0 first steps, digC 0 (compress V P) P hv a], ⟨[0, 1], ⟨rfl, rfl, rfl⟩, ?_⟩, rfl, rfl⟩
          (repeat first | exact trivial | refine ⟨rfl, ?_⟩ | refine ⟨fun _ _ => ⟨rfl, trivial⟩, ?_⟩ | refine ⟨by omega, ?_⟩)
          refine ⟨fun j hj => eqC_w32 (congrArg SC.w32 ?_), ?_⟩
          · show (if j < 8 then V j + v j else V j) = compress V P j
            rw [if_pos hj, ← hv', ← hW]
            rfl
          · (repeat first | exact trivial | refine ⟨rfl, ?_⟩ | refine ⟨fun _ _ => ⟨rfl, trivial⟩, ?_⟩ | refine ⟨by omega, ?_⟩)
end Sx
end Go.Proofs.YtkjdkeolkigibaaGreat
end

section
/-
  SHA-256, byte by byte: what waits and the words. Plain. No condition.
-/
namespace Go.Proofs.YtkjdkeolkigibaaGreat
set_option linter.unusedVariables false
namespace Sha

/-- A sum in the making: the words, the bytes of the block, how many wait. -/
structure Dg where
  V : Nat → BitVec 32
  P : Nat → BitVec 8
  h : Nat
def push (d : Dg) (x : BitVec 8) : Dg :=
  if d.h + 1 = 64 then ⟨compress d.V (fun i => if i = d.h then x else d.P i), fun i => if i = d.h then x else d.P i, 0⟩
  else ⟨d.V, fun i => if i = d.h then x else d.P i, d.h + 1⟩
/-- k bytes of b. -/
def pushN (d : Dg) (b : Nat → BitVec 8) : Nat → Dg
  | 0 => d
  | k + 1 => push (pushN d b k) (b k)
theorem push_lt {d : Dg} (h : d.h < 64) (x : BitVec 8) : (push d x).h < 64 := by
  unfold push
  split
  · show 0 < 64; omega
  · rename_i hc; show d.h + 1 < 64; omega
theorem pushN_lt {d : Dg} (h : d.h < 64) (b : Nat → BitVec 8) : ∀ k, (pushN d b k).h < 64
  | 0 => h
  | k + 1 => push_lt (pushN_lt h b k) _
theorem pushN_add (d : Dg) (b : Nat → BitVec 8) (m : Nat) : ∀ k, pushN d b (m + k) = pushN (pushN d b m) (fun i => b (m + i)) k
  | 0 => rfl
  | k + 1 => by rw [← Nat.add_assoc]; simp only [pushN, pushN_add d b m k]
/-- Bytes that don't fill the block only wait. -/
theorem pushN_wait (d : Dg) (b : Nat → BitVec 8) : ∀ k, d.h + k < 64 → pushN d b k = ⟨d.V, fun i => if d.h ≤ i ∧ i < d.h + k then b (i - d.h) else d.P i, d.h + k⟩
  | 0, _ => by
    have : ∀ i, ¬ (d.h ≤ i ∧ i < d.h + 0) := fun i => by omega
    simp only [pushN, this, if_false]
    rfl
  | k + 1, hk => by
    simp only [pushN, pushN_wait d b k (by omega)]
    unfold push
    rw [if_neg (by show ¬ d.h + k + 1 = 64; omega)]
    congr 1
    funext i
    by_cases hi : i = d.h + k
    · subst hi
      rw [if_pos rfl, if_pos ⟨by omega, by omega⟩]
      congr 1
      omega
    · rw [if_neg hi]
      show (if d.h ≤ i ∧ i < d.h + k then b (i - d.h) else d.P i) = _
      by_cases h1 : d.h ≤ i ∧ i < d.h + k
      · rw [if_pos h1, if_pos ⟨h1.1, by omega⟩]
      · rw [if_neg h1, if_neg (by omega)]
/-- Bytes that fill the block: it is gone through. -/
theorem pushN_fill (d : Dg) (b : Nat → BitVec 8) (k : Nat) (hk : d.h + k = 64) (h0 : 0 < k) :
    pushN d b k = ⟨compress d.V (fun i => if d.h ≤ i ∧ i < d.h + k then b (i - d.h) else d.P i), fun i => if d.h ≤ i ∧ i < d.h + k then b (i - d.h) else d.P i, 0⟩ := by
  obtain ⟨k, rfl⟩ : ∃ k', k = k' + 1 := ⟨k - 1, by omega⟩
  simp only [pushN, pushN_wait d b k (by omega)]
  have e : (fun i => if i = d.h + k then b k else (if d.h ≤ i ∧ i < d.h + k then b (i - d.h) else d.P i)) = fun i => if d.h ≤ i ∧ i < d.h + (k + 1) then b (i - d.h) else d.P i := by
    funext i
    by_cases hi : i = d.h + k
    · subst hi
      rw [if_pos rfl, if_pos ⟨by omega, by omega⟩]
      congr 1
      omega
    · rw [if_neg hi]
      by_cases h1 : d.h ≤ i ∧ i < d.h + k
      · rw [if_pos h1, if_pos ⟨h1.1, by omega⟩]
      · rw [if_neg h1, if_neg (by omega)]
  unfold push
  rw [if_pos (by show d.h + k + 1 = 64; omega)]
  show (⟨compress d.V (fun i => if i = d.h + k then b k else (if d.h ≤ i ∧ i < d.h + k then b (i - d.h) else d.P i)), fun i => if i = d.h + k then b k else (if d.h ≤ i ∧ i < d.h + k then b (i - d.h) else d.P i), 0⟩ : Dg) = _
  rw [e]
end Sha
end Go.Proofs.YtkjdkeolkigibaaGreat
end

section
/-
  The document's field of 256, its boxes. No condition.
-/
namespace Go.Proofs.YtkjdkeolkigibaaGreat
set_option linter.unusedVariables false
namespace Sx
open Aes

end Sx
end Go.Proofs.YtkjdkeolkigibaaGreat
end

section
/-
  The document's boxes. No condition.
-/
namespace Go.Proofs.YtkjdkeolkigibaaGreat
set_option linter.unusedVariables false
namespace Sx
open Aes

end Sx
end Go.Proofs.YtkjdkeolkigibaaGreat
end

section
/-
  SHA-256: bytes written. No condition.
-/
namespace Go.Proofs.YtkjdkeolkigibaaGreat
set_option linter.unusedVariables false
namespace Sx
open Sha

theorem pushN_step (d : Dg) (B : Nat → BitVec 8) (k m : Nat) (h0 : 0 < m) (hm : (pushN d B k).h + m ≤ 64) :
    pushN d B (k + m) = if (pushN d B k).h + m = 64
      then ⟨compress (pushN d B k).V (fun i => if (pushN d B k).h ≤ i ∧ i < (pushN d B k).h + m then B (k + (i - (pushN d B k).h)) else (pushN d B k).P i), fun i => if (pushN d B k).h ≤ i ∧ i < (pushN d B k).h + m then B (k + (i - (pushN d B k).h)) else (pushN d B k).P i, 0⟩
      else ⟨(pushN d B k).V, fun i => if (pushN d B k).h ≤ i ∧ i < (pushN d B k).h + m then B (k + (i - (pushN d B k).h)) else (pushN d B k).P i, (pushN d B k).h + m⟩ := by
  rw [pushN_add]
  split
  · rename_i h; exact pushN_fill _ _ _ h h0
  · rename_i h; exact pushN_wait _ _ _ (by omega)
theorem copied (q : List Nat) (P b : Nat → BitVec 8) (n h m s o k j : Nat) (e : s = o + k) (hm : k + m ≤ n) : eqC q (updN (fun j => SC.w8 (P j)) h m (fun q => winF o n b (q + s)) j) (SC.w8 (if h ≤ j ∧ j < h + m then b (k + (j - h)) else P j)) True := by
  unfold updN
  by_cases hj : h ≤ j ∧ j < h + m
  · rw [if_pos hj, if_pos hj]
    show eqC q (winF o n b (j - h + s)) _ _
    rw [show j - h + s = o + (k + (j - h)) by omega, winF_at _ _ _ (by omega)]
    exact ⟨rfl, trivial⟩
  · rw [if_neg hj, if_neg hj]
    exact ⟨rfl, trivial⟩
set_option maxRecDepth 20000 in
theorem fn_swrite (z : Bool) (n c N o : Nat) (b : Nat → BitVec 8) (d : Dg) (a : BitVec 64) (hd : d.h < 64) (hN : o + n ≤ N) (hc : n ≤ c) (hz : z = true → n = 0) :
    FnR Tryz.prog tds 84 2 [shaT 1 0 first steps, bts z N o n b, digC 0 d.V d.P d.h a] [.c (.p 2 0 0), .c (.sn z 1 0 o n c)] (fun _ => True)
      (fun x hs => x = .tup [] ∧ hs = [shaT 1 0 first steps, bts z N o n b, digC 0 (pushN d b n).V (pushN d b n).P (pushN d b n).h (a + BitVec.ofNat 64 n)]) := by
  refine fn_of_body tds_ok follows_ Tryz.func84 rfl (t := [.a (.c (.p 2 0 0)), .a (.c (.sn z 1 0 o n c)), .any, .any, .any, .any, .any, .any, .any, .any, .any, .any, .any, .any, .any, .any, .any, .any, .any, .any, .any, .any, .any, .any, .any, .any, .any, .any, .any, .any, .any, .any, .any, .any, .any, .any, .any, .any, .any, .any, .any, .any, .any, .any, .any, .any, .any, .any, .any]) rfl (fun w r0 hr _ => ?_)
  obtain ⟨x0, x1, x2, rfl⟩ := len3' hr
  cases z with
  | true =>
    obtain rfl := hz rfl
    (repeat first | refine ⟨by omega, ?_⟩ | refine ⟨by decide, ?_⟩ | refine ⟨idx8 _, ?_⟩ | refine ⟨lt8 (Nat.le_refl _) _, ?_⟩ | refine ⟨rfl, ?_⟩)
    refine .inl ⟨Unit, fun _ => ⟨[.a (.c (.p 2 0 0)), .a (.c (.sn true 1 0 o 0 c)), .any, .any, .any, .any, .any, .any, .any, .any, .any, .any, .any, .any, .any, .any, .any, .any, .any, .any, .any, .any, .any, .any, .any, .any, .any, .any, .any, .any, .any, .any, .any, .any, .any, .any, .any, .any, .any, .any, .any, .any, .any, .any, .any, .any, .any, .any, .any], [shaT 1 0 first steps, bts true N o 0 b, digC 0 d.V d.P d.h (a + BitVec.ofNat 64 0)]⟩,
      fun _ => True, fun _ => 0, ⟨(), [0, 1, 2], ⟨⟨rfl, rfl, rfl⟩, ?_⟩, trivial⟩, fun _ _ => ⟨fun h => absurd (of_decide_eq_true h) (by decide), fun h => ?_⟩⟩
    · (repeat first | exact trivial | refine ⟨rfl, ?_⟩ | refine ⟨fun _ _ => ⟨rfl, trivial⟩, ?_⟩ | refine ⟨by omega, ?_⟩)
    · refine ⟨.tup [], _, ⟨[0, 1, 2], ⟨rfl, rfl, rfl⟩, ?_⟩, rfl, rfl⟩
      (repeat first | exact trivial | refine ⟨rfl, ?_⟩ | refine ⟨fun _ _ => ⟨rfl, trivial⟩, ?_⟩ | refine ⟨by omega, ?_⟩)
  | false =>
  (repeat first | refine ⟨by omega, ?_⟩ | refine ⟨by decide, ?_⟩ | refine ⟨idx8 _, ?_⟩ | refine ⟨lt8 (Nat.le_refl _) _, ?_⟩ | refine ⟨rfl, ?_⟩)
  refine .inl ⟨Nat × Nat × Nat, fun (k, oo, cc) => ⟨[.a (.c (.p 2 0 0)), .a (.c (.sn false 1 0 oo (n - k) cc)), .any, .any, .any, .any, .any, .any, .any, .any, .any, .any, .any, .any, .any, .any, .any, .any, .any, .any, .any, .any, .any, .any, .any, .any, .any, .any, .any, .any, .any, .any, .any, .any, .any, .any, .any, .any, .any, .any, .any, .any, .any, .any, .any, .any, .any, .any, .any], [shaT 1 0 first steps, [.row N (winF o n b)], digC 0 (pushN d b k).V (pushN d b k).P (pushN d b k).h (a + BitVec.ofNat 64 n)]⟩,
    fun (k, oo, cc) => k ≤ n ∧ (k < n → oo = o + k) ∧ n - k ≤ cc ∧ cc ≤ c, fun (k, _, _) => n - k, ⟨(0, o, c), [0, 1, 2], ⟨⟨rfl, rfl, rfl⟩, ?_⟩, by omega, by omega, by omega, by omega⟩, fun (k, oo, cc) ⟨hk, hoo, hcc, hcc'⟩ => ⟨fun h => ?_, fun h => ?_⟩⟩
  · (repeat first | exact trivial | refine ent1 ?_)
  · have hlt : k < n := by have : ((n - k : Nat) : Int) > 0 := of_decide_eq_true h; omega
    obtain rfl : oo = o + k := hoo hlt
    obtain ⟨D, hD⟩ : ∃ D, pushN d b k = D := ⟨_, rfl⟩
    have hDl : D.h < 64 := by rw [← hD]; exact pushN_lt hd _ _
    have hst := fun m h0 hm => pushN_step d b k m h0 hm
    rw [hD] at hst ⊢
    refine ⟨none, [], [(0, true), (1, true), (2, true), (3, true), (4, true), (5, true), (6, true), (7, true), (8, true)], [9, 10], by kernel_rfl, ?_⟩
    (repeat first | refine ⟨by omega, ?_⟩ | refine ⟨by decide, ?_⟩ | refine ⟨idx8 _, ?_⟩ | refine ⟨lt8 (Nat.le_refl _) _, ?_⟩ | refine ⟨rfl, ?_⟩)
    have e1 : ((D.h : Nat) : Int).toNat = D.h := by omega
    have e64 : ((64 : Nat) : Int).toNat = 64 := rfl
    simp only [frcN_eq, e1, e64, if_neg (show ¬ 64 = D.h by omega)]
    have hsrc : 1 * (n - k) ≤ N := by omega
    (repeat first | refine ⟨by omega, ?_⟩ | refine ⟨by decide, ?_⟩ | refine ⟨idx8 _, ?_⟩ | refine ⟨lt8 (Nat.le_refl _) _, ?_⟩ | refine ⟨rfl, ?_⟩)
    refine ⟨fun q => winF o n b (q + (o + k)), ⟨fun h => Bool.noConfusion h, fun _ => ⟨N, winF o n b, [], rfl, by simp only [scale]; omega, fun _ _ => rfl⟩⟩, ?_⟩
    refine ⟨by omega, ?_⟩
    generalize hm : min (n - k) (64 - D.h) = m
    have hm1 : m ≤ n - k ∧ m ≤ 64 - D.h ∧ 0 < m ∧ (m = n - k ∨ m = 64 - D.h) := by omega
    (repeat first | refine ⟨by omega, ?_⟩ | refine ⟨by decide, ?_⟩ | refine ⟨idx8 _, ?_⟩ | refine ⟨lt8 (Nat.le_refl _) _, ?_⟩ | refine ⟨rfl, ?_⟩)
    have e2 : ((m : Nat) : Int).toNat = m := by omega
    have e3 : ((n - k : Nat) : Int).toNat = n - k := by omega
    have e4 : ((cc : Nat) : Int).toNat = cc := by omega
    simp only [frcN_eq, e2, e3]
    generalize ho2 : (if cc = m then o + k else o + k + m * 1) = o2
    have e5 : n - k - m = n - (k + m) := by omega
    rw [e5]
    have hs := hst m (by omega) (by omega)
    have hb1 : k + m ≤ n := by omega
    have hb2 : n - (k + m) ≤ cc - m := by omega
    have hb3 : cc - m ≤ c := by omega
    have hb4 : n - (k + m) < n - k := by omega
    have hb5 : k + m < n → o2 = o + (k + m) := fun hlt2 => by rw [← ho2, if_neg (by omega)]; omega
    have hb6 : 0 + D.h * 1 = D.h := by omega
    rw [hb6]
    refine ⟨fun h2 => ?_, fun h2 => ?_⟩
    · have h64 : D.h + m = 64 := by have := of_decide_eq_true h2; omega
      rw [if_pos h64] at hs
      refine ⟨by kernel_rfl, call_same (fn_smix D.V (fun i => if D.h ≤ i ∧ i < D.h + m then b (k + (i - D.h)) else D.P i) ((D.h : Int) + m) (a + BitVec.ofNat 64 n)) [0, 2] rfl ⟨rfl, trivial⟩ ?_ (fun _ _ => trivial) ?_⟩
      · (repeat first | exact trivial | refine ent1 ?_)
        refine ⟨fun j hj => copied _ D.P b n D.h m (o + k) o k j rfl hb1, ?_⟩
        (repeat first | exact trivial | refine ent1 ?_)
      · rintro x hs' ⟨rfl, rfl⟩
        refine ⟨rfl, ?_⟩
        refine ⟨(k + m, o2, cc - m), [0, 1, 2], ⟨⟨rfl, rfl, rfl⟩, ?_⟩, ⟨hb1, hb5, hb2, hb3⟩, hb4⟩
        dsimp only
        rw [hs]
        (repeat first | exact trivial | refine ent1 ?_)
    · have h64 : ¬ D.h + m = 64 := by have := of_decide_eq_false h2; omega
      rw [if_neg h64] at hs
      refine ⟨(k + m, o2, cc - m), [0, 1, 2], ⟨⟨rfl, rfl, rfl⟩, ?_⟩, ⟨hb1, hb5, hb2, hb3⟩, hb4⟩
      dsimp only
      rw [hs]
      (repeat first | exact trivial | refine ent1 ?_)
      refine ⟨fun j hj => copied _ D.P b n D.h m (o + k) o k j rfl hb1, ?_⟩
      (repeat first | exact trivial | refine ent1 ?_)
  · have hkn : k = n := by have : ¬ ((n - k : Nat) : Int) > 0 := of_decide_eq_false h; omega
    subst hkn
    refine ⟨.tup [], _, ⟨[0, 1, 2], ⟨rfl, rfl, rfl⟩, ?_⟩, rfl, rfl⟩
    (repeat first | exact trivial | refine ent1 ?_)
end Sx
end Go.Proofs.YtkjdkeolkigibaaGreat
end

section
/-
  SHA-256: the end of a sum. No condition.
-/
namespace Go.Proofs.YtkjdkeolkigibaaGreat
set_option linter.unusedVariables false
namespace Sha
/-- How many bytes come ahead of the size. -/
def padP (h : Nat) : Nat := if h < 56 then 56 - h else 120 - h
def padB (p : Nat) (m : BitVec 64) (i : Nat) : BitVec 8 := if i = 0 then 128#8 else if i < p then 0#8 else (m >>> (8 * (7 - (i - p)))).setWidth 8
def outW (V : Nat → BitVec 32) (i : Nat) : BitVec 8 := (V (i / 4) >>> (8 * (3 - i % 4))).setWidth 8
def endD (d : Dg) (a : BitVec 64) : Dg := pushN d (padB (padP d.h) (a * 8#64)) (padP d.h + 8)
def endV (d : Dg) (a : BitVec 64) (i : Nat) : BitVec 8 := outW (endD d a).V i
theorem padP_iff {h k : Nat} (hh : h < 64) (hk : k + 1 ≤ padP h) : (h + (k + 1)) % 64 = 56 ↔ k + 1 = padP h := by
  unfold padP at *
  by_cases h5 : h < 56
  · rw [if_pos h5] at *; constructor <;> intro _ <;> omega
  · rw [if_neg h5] at *; constructor <;> intro _ <;> omega
theorem padP_le {h : Nat} (hh : h < 64) : 1 ≤ padP h ∧ padP h ≤ 64 := by unfold padP; split <;> omega
end Sha
namespace Sx
open Sha

theorem app1 {f : Nat → SC} {n : Nat} {b : Nat → BitVec 8} {g : Nat → SC} (hf : ∀ j, j < n → f j = .w8 (b j)) (hg : g 0 = .w8 (b n)) (i : Nat) (hi : i < n + 1) :
    appF f 0 (scale n (0 + 1)) (scale 1 (0 + 1)) g i = .w8 (b i) := by
  unfold appF
  by_cases hik : i < n
  · rw [if_pos (by simpa [scale] using hik), Nat.add_zero, hf i hik]
  · obtain rfl : i = n := by omega
    rw [if_neg (by simp [scale]), if_pos (by simp [scale]), show i - scale i (0 + 1) = 0 from Nat.sub_self _, hg]
theorem of_decide_eq_false' {p : Prop} [Decidable p] (h : decide (¬ p) = false) : p := Decidable.not_not.1 (of_decide_eq_false h)
theorem shAmt8 : ∀ k : Nat, k < 8 → (8#64 * BitVec.ofInt 64 (7 - (k : Int))).toNat = 8 * (7 - k) := by decide +kernel
theorem shAmt4 : ∀ k : Nat, k < 4 → (8#64 * BitVec.ofInt 64 (3 - (k : Int))).toNat = 8 * (3 - k) := by decide +kernel
set_option maxRecDepth 20000 in
theorem fn_send (d : Dg) (a : BitVec 64) (hd : d.h < 64) :
    FnR Tryz.prog tds 85 1 [shaT 1 0 first steps, digC 0 d.V d.P d.h a] [.c (.p 1 0 0)] (fun _ => True)
      (fun x hs => x = .a (.agg [.row 32 fun i => .w8 (endV d a i)]) ∧ ∃ (V' : Nat → BitVec 32) (P' : Nat → BitVec 8) (h' : Nat) (a' : BitVec 64), hs = [shaT 1 0 first steps, digC 0 V' P' h' a']) := by
  refine fn_of_body tds_ok follows_ Tryz.func85 rfl (t := [.a (.c (.p 1 0 0)), .any, .any, .any, .any, .any, .any, .any, .any, .any, .any, .any, .any, .any, .any, .any, .any, .any, .any, .any, .any, .any, .any, .any, .any, .any, .any, .any, .any, .any, .any, .any, .any, .any, .any, .any, .any, .any, .any, .any, .any, .any, .any, .any, .any, .any, .any, .any, .any, .any, .any, .any, .any, .any, .any, .any, .any, .any, .any, .any, .any, .any, .any, .any, .any, .any, .any, .any, .any, .any]) rfl (fun w r0 hr _ => ?_)
  obtain ⟨x0, x1, rfl⟩ := len2' hr
  have hpl := padP_le hd
  refine .inl ⟨Nat × Nat, fun (k, c) => ⟨[.a (.c (.p 1 0 0)), .any, .a (.c (.p 2 0 0)), .a (.c (.w64 ((a * 8#64)))), .a (.c (.sl 3 0 0 (k+1) c)), .any, .any, .any, .any, .any, .any, .any, .any, .any, .any, .any, .any, .any, .any, .any, .any, .any, .any, .any, .any, .any, .any, .any, .any, .any, .any, .any, .any, .any, .any, .any, .any, .any, .any, .any, .any, .any, .any, .any, .any, .any, .any, .any, .any, .any, .any, .any, .any, .any, .any, .any, .any, .any, .any, .any, .any, .any, .any, .any, .any, .any, .any, .any, .any, .any], [shaT 1 0 first steps, digC 0 d.V d.P d.h a, [.row 32 fun _ => .w8 0#8], [.row c (bytesF (k + 1) (padB (padP d.h) (a * 8#64)))]]⟩,
    fun (k, c) => k + 1 ≤ padP d.h ∧ k + 1 ≤ c, fun (k, _) => 64 - k, ⟨(0, 1), [0, 1, 2, 3], ⟨⟨rfl, rfl, rfl⟩, ?_⟩, by omega, by omega⟩, fun (k, c) ⟨hk, hc⟩ => ?_⟩
  · (repeat first | exact trivial | refine ent1 ?_)
    exact ⟨fun j hj => eqC_bytes (fun i hi => by obtain rfl : i = 0 := by omega
                                                 rfl) j, trivial⟩
  · (repeat first | refine ⟨by omega, ?_⟩ | refine ⟨by decide, ?_⟩ | refine ⟨idx8 _, ?_⟩ | refine ⟨lt8 (Nat.le_refl _) _, ?_⟩ | refine ⟨rfl, ?_⟩)
    have e1 : ((d.h : Int) + ((k + 1 : Nat) : Int)) % 64 = (((d.h + (k + 1)) % 64 : Nat) : Int) := by omega
    refine ⟨fun h => ?_, fun h => ?_⟩
    · have h1 : ¬ ((d.h : Int) + ((k + 1 : Nat) : Int)) % 64 = 56 := of_decide_eq_true h
      have h2 := mt (padP_iff hd hk).2
      have h3 : k + 1 < padP d.h := by omega
      refine ⟨by decide, ⟨by omega, by simp [scale], by show _ * 1 ≤ _; omega⟩, fun c' hc' => ?_⟩
      refine ⟨(k + 1, c'), [0, 1, 2, 5], ⟨⟨rfl, rfl, rfl⟩, ?_⟩, by omega, by dsimp only; omega⟩
      (repeat first | exact trivial | refine ent1 ?_)
      exact ⟨fun j hj => eqC_bytes (app1 (fun _ h => bytesF_lt h) (by show SC.w8 0#8 = _; unfold padB; rw [if_neg (by omega), if_pos h3])) j, trivial⟩
    · have h1 : ((d.h : Int) + ((k + 1 : Nat) : Int)) % 64 = 56 := of_decide_eq_false' h
      have h2 : k + 1 = padP d.h := (padP_iff hd hk).1 (by omega)
      refine .inl ⟨Nat × Nat, fun (k, c) => ⟨[.a (.c (.p 1 0 0)), .any, .a (.c (.p 2 0 0)), .a (.c (.w64 ((a * 8#64)))), .a (.c (.sl 3 0 0 (padP d.h + k) c)), .a (.c (.int .i64 (7 - (k : Int)))), .any, .any, .any, .any, .any, .any, .any, .any, .any, .any, .any, .any, .any, .any, .any, .any, .any, .any, .any, .any, .any, .any, .any, .any, .any, .any, .any, .any, .any, .any, .any, .any, .any, .any, .any, .any, .any, .any, .any, .any, .any, .any, .any, .any, .any, .any, .any, .any, .any, .any, .any, .any, .any, .any, .any, .any, .any, .any, .any, .any, .any, .any, .any, .any], [shaT 1 0 first steps, digC 0 d.V d.P d.h a, [.row 32 fun _ => .w8 0#8], [.row c (bytesF (padP d.h + k) (padB (padP d.h) (a * 8#64)))]]⟩,
        fun (k, c) => k ≤ 8 ∧ padP d.h + k ≤ c, fun (k, _) => 64 - k, ⟨(0, c), [0, 1, 2, 3], ⟨⟨rfl, rfl, rfl⟩, ?_⟩, by omega, by omega⟩, fun (k, c) ⟨hk, hc⟩ => ⟨fun h => ?_, fun h => ?_⟩⟩
      · (repeat first | exact trivial | refine ent1 ?_)
        refine ⟨fun j hj => ?_, trivial⟩
        rw [h2]
        exact eqC_selfB
      · have hlt : 7 - (k : Int) ≥ 0 := of_decide_eq_true h
        refine ⟨by decide, ⟨by omega, by simp [scale], by show _ * 1 ≤ _; omega⟩, fun c' hc' => ?_⟩
        refine ⟨⟨by omega, by omega⟩, (k + 1, c'), [0, 1, 2, 5], ⟨⟨rfl, rfl, rfl⟩, ?_⟩, by omega, by dsimp only; omega⟩
        (repeat first | exact trivial | refine ent1 ?_)
        refine ⟨fun j hj => eqC_bytes (app1 (fun _ h => bytesF_lt h) ?_) j, trivial⟩
        show SC.w8 (((a * 8#64) >>> (8#64 * BitVec.ofInt 64 (7 - (k : Int))).toNat).setWidth 8) = _
        rw [shAmt8 k (by omega)]
        unfold padB
        rw [if_neg (by omega), if_neg (by omega), show padP d.h + k - padP d.h = k by omega]
      · obtain rfl : k = 8 := by have : ¬ 7 - (k : Int) ≥ 0 := of_decide_eq_false h; omega
        refine ⟨by kernel_rfl, call_same (fn_swrite false (padP d.h + 8) c c 0 (padB (padP d.h) (a * 8#64)) d a hd (by omega) (by omega) (fun h => Bool.noConfusion h)) [0, 3, 1] rfl (by (repeat first | exact trivial | refine ent1 ?_)) ?_ (fun _ _ => trivial) ?_⟩
        · (repeat first | exact trivial | refine ent1 ?_)
        · rintro x hs ⟨rfl, rfl⟩
          obtain ⟨D, hD⟩ : ∃ D, pushN d (padB (padP d.h) (a * 8#64)) (padP d.h + 8) = D := ⟨_, rfl⟩
          rw [hD]
          (repeat first | refine ⟨by omega, ?_⟩ | refine ⟨by decide, ?_⟩ | refine ⟨idx8 _, ?_⟩ | refine ⟨lt8 (Nat.le_refl _) _, ?_⟩ | refine ⟨rfl, ?_⟩)
          refine .inl ⟨Nat, fun k => ⟨[.any, .any, .a (.c (.p 2 0 0)), .any, .any, .any, .a (.c (.p 4 0 0)), .any, .any, .any, .any, .any, .any, .any, .any, .any, .any, .any, .any, .any, .any, .any, .any, .any, .any, .any, .any, .any, .any, .any, .any, .any, .any, .any, .any, .any, .any, .any, .any, .any, .any, .any, .any, .any, .any, .any, .any, .a (.agg [.row 8 fun j => .w32 (D.V j)]), .a (.c (.int .i64 (↑k))), .any, .any, .any, .any, .any, .any, .any, .any, .any, .any, .any, .any, .any, .any, .any, .any, .any, .any, .any, .any, .any], [shaT 1 0 first steps, digC 0 D.V D.P D.h (a + BitVec.ofNat 64 (padP d.h + 8)), [.row 32 fun _ => .w8 0#8], [], [.row 32 fun i => .w8 (if i < 4 * k then outW D.V i else 0#8)]]⟩,
            fun k => k ≤ 8, fun k => 8 - k, ⟨0, [0, 1, 2, 3, 4], ⟨⟨rfl, rfl, rfl⟩, ?_⟩, by omega⟩, fun k hk => ⟨fun h => ?_, fun h => ?_⟩⟩
          · (repeat first | exact trivial | refine ent1 ?_)
          · have hlt : (k : Int) < 8 := of_decide_eq_true h
            (repeat first | refine ⟨by omega, ?_⟩ | refine ⟨by decide, ?_⟩ | refine ⟨idx8 _, ?_⟩ | refine ⟨lt8 (Nat.le_refl _) _, ?_⟩ | refine ⟨rfl, ?_⟩)
            refine .inl ⟨Nat, fun m => ⟨[.any, .any, .a (.c (.p 2 0 0)), .any, .any, .any, .a (.c (.p 4 0 0)), .a (.c (.int .i64 (↑k))), .a (.c (.w32 ((D.V k)))), .any, .any, .any, .any, .any, .any, .any, .any, .any, .any, .any, .any, .any, .any, .any, .any, .any, .any, .any, .any, .any, .any, .any, .any, .any, .any, .any, .any, .any, .any, .any, .any, .any, .any, .any, .any, .any, .any, .a (.agg [.row 8 fun j => .w32 (D.V j)]), .a (.c (.int .i64 (↑k))), .any, .any, .any, .a (.c (.int .i64 (↑m))), .any, .any, .any, .any, .any, .any, .any, .any, .any, .any, .any, .any, .any, .any, .any, .any, .any], [shaT 1 0 first steps, digC 0 D.V D.P D.h (a + BitVec.ofNat 64 (padP d.h + 8)), [.row 32 fun _ => .w8 0#8], [], [.row 32 fun i => .w8 (if i < 4 * k + m then outW D.V i else 0#8)]]⟩,
              fun m => m ≤ 4, fun m => 4 - m, ⟨0, [0, 1, 2, 3, 4], ⟨⟨rfl, rfl, rfl⟩, ?_⟩, by omega⟩, fun m hm => ⟨fun h => ?_, fun h => ?_⟩⟩
            · (repeat first | exact trivial | refine ent1 ?_)
            · have hlt : (m : Int) < 4 := of_decide_eq_true h
              (repeat first | refine ⟨by omega, ?_⟩ | refine ⟨by decide, ?_⟩ | refine ⟨idx8 _, ?_⟩ | refine ⟨lt8 (Nat.le_refl _) _, ?_⟩)
              refine ⟨rfl, ⟨by omega, by omega⟩, m + 1, [0, 1, 2, 3, 4], ⟨⟨rfl, rfl, rfl⟩, ?_⟩, by dsimp only; omega, by dsimp only; omega⟩
              (repeat first | exact trivial | refine ent1 ?_)
              refine ⟨fun j hj => ?_, trivial⟩
              have e0 : (4 * (k : Int) + (m : Int)).toNat + 0 = 4 * k + m := by omega
              rw [e0, shAmt4 m (by omega)]
              unfold upd
              by_cases hj2 : j = 4 * k + m
              · rw [if_pos hj2, hj2]
                refine eqC_w8 (congrArg SC.w8 ?_)
                show _ = if 4 * k + m < 4 * k + (m + 1) then _ else _
                rw [if_pos (by omega)]
                unfold outW
                rw [show (4 * k + m) / 4 = k by omega, show (4 * k + m) % 4 = m by omega]
              · rw [if_neg hj2]
                have : j < 4 * k + (m + 1) ↔ j < 4 * k + m := by omega
                refine eqC_w8 (congrArg SC.w8 ?_)
                simp only [this]
            · obtain rfl : m = 4 := by have : ¬ (m : Int) < 4 := of_decide_eq_false h; have hm : m ≤ 4 := hm; omega
              refine ⟨⟨by omega, by omega⟩, k + 1, [0, 1, 2, 3, 4], ⟨⟨rfl, rfl, rfl⟩, ?_⟩, by dsimp only; omega, by dsimp only; omega⟩
              (repeat first | exact trivial | refine ent1 ?_)
          · obtain rfl : k = 8 := by have : ¬ (k : Int) < 8 := of_decide_eq_false h; have hk : k ≤ 8 := hk; omega
            (repeat first | refine ⟨by omega, ?_⟩ | refine ⟨by decide, ?_⟩ | refine ⟨idx8 _, ?_⟩ | refine ⟨lt8 (Nat.le_refl _) _, ?_⟩ | refine ⟨rfl, ?_⟩)
            refine ⟨.a (.agg [.row 32 fun i => .w8 (endV d a i)]), [shaT 1 0 first steps, digC 0 D.V D.P D.h (a + BitVec.ofNat 64 (padP d.h + 8))], ⟨[0, 1], ⟨rfl, rfl, rfl⟩, ?_⟩, rfl, D.V, D.P, D.h, a + BitVec.ofNat 64 (padP d.h + 8), rfl⟩
            (repeat first | exact trivial | refine ent1 ?_)
            refine ⟨fun j hj => eqC_w8 (congrArg SC.w8 ?_), ?_⟩
            · show (if j + 0 + 0 < 4 * 8 then outW D.V (j + 0 + 0) else 0#8) = endV d a j
              rw [if_pos (by omega)]
              unfold endV endD
              rw [hD]
              rfl
            · (repeat first | exact trivial | refine ent1 ?_)
end Sx
end Go.Proofs.YtkjdkeolkigibaaGreat
end

section
/-
  SHA-256 of lists of bytes. Plain. No condition.
-/
namespace Go.Proofs.YtkjdkeolkigibaaGreat
set_option linter.unusedVariables false
namespace Sha
def d0 : Dg := ⟨first, fun _ => 0#8, 0⟩
def pushL (d : Dg) (l : Bs) : Dg := l.foldl push d
theorem pushL_app (d : Dg) (l m : Bs) : pushL d (l ++ m) = pushL (pushL d l) m := List.foldl_append
theorem pushL_lt {d : Dg} (h : d.h < 64) (l : Bs) : (pushL d l).h < 64 := by
  induction l generalizing d with
  | nil => exact h
  | cons x l ih => exact ih (push_lt h x)
theorem pushN_tab (d : Dg) (b : Nat → BitVec 8) : ∀ n, pushN d b n = pushL d (tab n b)
  | 0 => rfl
  | n + 1 => by
    simp only [pushN]
    rw [pushN_tab d b n]
    unfold tab
    rw [List.range_succ, List.map_append, pushL_app]
    rfl
theorem pushN_L (d : Dg) (l : Bs) : pushN d (L l) l.length = pushL d l := by rw [pushN_tab, tab_L]
def sumL (l : Bs) : Bs := tab 32 (endV (pushL d0 l) (BitVec.ofNat 64 l.length))
@[simp] theorem sumL_len (l : Bs) : (sumL l).length = 32 := tab_len _ _
theorem L_sumL (l : Bs) {i : Nat} (h : i < 32) : L (sumL l) i = endV (pushL d0 l) (BitVec.ofNat 64 l.length) i := L_tab h
/-- The first k parts. -/
def cat (ps : Nat → Bs) : Nat → Bs
  | 0 => []
  | k + 1 => cat ps k ++ ps k
theorem ofNat_add64 (a b : Nat) : BitVec.ofNat 64 a + BitVec.ofNat 64 b = BitVec.ofNat 64 (a + b) := (BitVec.ofNat_add a b).symm
end Sha
end Go.Proofs.YtkjdkeolkigibaaGreat
end

section
/-
  SHA-256: sums of parts. No condition.
-/
namespace Go.Proofs.YtkjdkeolkigibaaGreat
set_option linter.unusedVariables false
namespace Sx
open Sha

end Sx
end Go.Proofs.YtkjdkeolkigibaaGreat
end

section
/-
  SHA-256: a sum of at most three parts, each in a block of its own. No condition.
-/
namespace Go.Proofs.YtkjdkeolkigibaaGreat
set_option linter.unusedVariables false
namespace Sha
def ps3 (l0 l1 l2 : Bs) : Nat → Bs
  | 0 => l0
  | 1 => l1
  | _ => l2
end Sha
namespace Sx
open Sha

theorem eqC_P3 {a b c : SC} {q : List Nat} {m : Nat} (hm : m ≤ 3) (h0 : eqC q a a True) (h1 : eqC q b b True) (h2 : eqC q c c True) {j : Nat} :
    eqC q (partsF m (nthC [a, b, c]) j) (partsF m (nthC [a, b, c]) j) True := eqC_partsS (fun i hi => by
  have : i = 0 ∨ i = 1 ∨ i = 2 := by omega
  rcases this with rfl | rfl | rfl
  · exact h0
  · exact h1
  · exact h2)
theorem eqC_P012 {q : List Nat} {m : Nat} (hm : m ≤ 3) {z0 z1 z2 : Bool} {o0 o1 o2 n0 n1 n2 c0 c1 c2 : Nat} {j : Nat} :
    eqC (0 :: 1 :: 2 :: q) (partsF m (nthC [.sn z0 0 0 o0 n0 c0, .sn z1 1 0 o1 n1 c1, .sn z2 2 0 o2 n2 c2]) j) (partsF m (nthC [.sn z0 0 0 o0 n0 c0, .sn z1 1 0 o1 n1 c1, .sn z2 2 0 o2 n2 c2]) j) True :=
  eqC_P3 (q := 0 :: 1 :: 2 :: q) (a := .sn z0 0 0 o0 n0 c0) (b := .sn z1 1 0 o1 n1 c1) (c := .sn z2 2 0 o2 n2 c2) hm ⟨rfl, rfl, rfl, rfl, trivial⟩ ⟨rfl, rfl, rfl, rfl, trivial⟩ ⟨rfl, rfl, rfl, rfl, trivial⟩
set_option maxRecDepth 20000 in
theorem fn_ssum3 (z0 z1 z2 : Bool) (N0 N1 N2 o0 o1 o2 c0 c1 c2 : Nat) (l0 l1 l2 : Bs) (cm M m : Nat) (dn : BitVec 32) (f s : Nat → BitVec 32) (hd : dn = 0#32 ∨ dn = 1#32 ∧ f = first ∧ s = steps)
    (hN0 : o0 + l0.length ≤ N0) (hN1 : o1 + l1.length ≤ N1) (hN2 : o2 + l2.length ≤ N2) (hc0 : l0.length ≤ c0) (hc1 : l1.length ≤ c1) (hc2 : l2.length ≤ c2)
    (hz0 : z0 = true → l0 = []) (hz1 : z1 = true → l1 = []) (hz2 : z2 = true → l2 = []) (hm : m ≤ M) (hM : m ≤ 3) :
    FnR Tryz.prog tds 82 4 [bts z0 N0 o0 l0.length (L l0), bts z1 N1 o1 l1.length (L l1), bts z2 N2 o2 l2.length (L l2), [.row M (partsF m (nthC [.sn z0 0 0 o0 l0.length c0, .sn z1 1 0 o1 l1.length c1, .sn z2 2 0 o2 l2.length c2]))], shaT dn 0 f s] [.c (.p 4 0 0), .c (.sl 3 0 0 m cm)] (fun _ => True)
      (fun x hs => x = .a (.agg [.row 32 fun i => .w8 (L (sumL (cat (ps3 l0 l1 l2) m)) i)]) ∧ hs = [bts z0 N0 o0 l0.length (L l0), bts z1 N1 o1 l1.length (L l1), bts z2 N2 o2 l2.length (L l2), [.row M (partsF m (nthC [.sn z0 0 0 o0 l0.length c0, .sn z1 1 0 o1 l1.length c1, .sn z2 2 0 o2 l2.length c2]))], shaT 1 0 first steps]) := by
  refine fn_of_body tds_ok follows_ Tryz.func82 rfl (t := [.a (.c (.p 4 0 0)), .a (.c (.sl 3 0 0 m cm)), .any, .any, .any, .any, .any, .any, .any, .any, .any, .any, .any, .any, .any, .any, .any, .any, .any, .any, .any, .any, .any]) rfl (fun w r0 hr _ => ?_)
  obtain ⟨x0, x1, x2, x3, x4, rfl⟩ := len5' hr
  refine ⟨fun h => Bool.noConfusion h, fun _ => ?_⟩
  refine ⟨by kernel_rfl, call_same (fn_begin dn f s hd) [4] rfl (by (repeat first | exact trivial | refine ent1 ?_)) (by (repeat first | exact trivial | refine ent1 ?_)) (fun _ _ => trivial) ?_⟩
  rintro x hs ⟨rfl, rfl⟩
  (repeat first | refine ⟨by omega, ?_⟩ | refine ⟨by decide, ?_⟩ | refine ⟨idx8 _, ?_⟩ | refine ⟨lt8 (Nat.le_refl _) _, ?_⟩ | refine ⟨rfl, ?_⟩)
  obtain ⟨ps, hps⟩ : ∃ ps, ps3 l0 l1 l2 = ps := ⟨_, rfl⟩
  rw [hps]
  have hl : ∀ (k : Nat) (l : Bs), ps k = l → pushN (pushL d0 (cat ps k)) (L l) l.length = pushL d0 (cat ps (k + 1)) ∧ BitVec.ofNat 64 (cat ps k).length + BitVec.ofNat 64 l.length = BitVec.ofNat 64 (cat ps (k + 1)).length := by
    rintro k l rfl
    refine ⟨by rw [pushN_L]; simp only [cat]; rw [pushL_app], by simp only [cat, List.length_append, ofNat_add64]⟩
  refine .inl ⟨Nat, fun k => ⟨[.any, .any, .any, .any, .a (.c (.p 5 0 0)), .a (.c (.p 6 0 0)), .any, .any, .any, .any, .any, .any, .any, .a (.c (.sl 3 0 0 m cm)), .a (.c (.int .i64 (↑m))), .a (.c (.int .i64 (↑k))), .any, .any, .any, .any, .any, .any, .any], [bts z0 N0 o0 l0.length (L l0), bts z1 N1 o1 l1.length (L l1), bts z2 N2 o2 l2.length (L l2), [.row M (partsF m (nthC [.sn z0 0 0 o0 l0.length c0, .sn z1 1 0 o1 l1.length c1, .sn z2 2 0 o2 l2.length c2]))], shaT 1 0 first steps, [.row 32 fun _ => .w8 0#8], digC 4 (pushL d0 (cat ps k)).V (pushL d0 (cat ps k)).P (pushL d0 (cat ps k)).h (BitVec.ofNat 64 (cat ps k).length)]⟩,
    fun k => k ≤ m, fun k => m - k, ⟨0, [0, 1, 2, 3, 4, 5, 6], ⟨⟨rfl, rfl, rfl⟩, ?_⟩, by omega⟩, fun k hk => ⟨fun h => ?_, fun h => ?_⟩⟩
  · (repeat first | exact trivial | refine ent1 ?_)
    refine eqC_bts (eqC_bts (eqC_bts ⟨rfl, fun j hj => eqC_P012 hM, ?_⟩))
    (repeat first | exact trivial | refine ent1 ?_)
  · have hlt : k < m := by have : (k : Int) < (m : Int) := of_decide_eq_true h; omega
    (repeat first | refine ⟨by omega, ?_⟩ | refine ⟨by decide, ?_⟩ | refine ⟨idx8 _, ?_⟩ | refine ⟨lt8 (Nat.le_refl _) _, ?_⟩)
    have e1 : (k : Int).toNat + 0 = k := by omega
    rw [e1]
    refine frc_parts hlt ?_
    obtain ⟨D, hD⟩ : ∃ D, pushL d0 (cat ps k) = D := ⟨_, rfl⟩
    have hDl : D.h < 64 := by rw [← hD]; exact pushL_lt (by decide) _
    rw [hD]
    have hk3 : k = 0 ∨ k = 1 ∨ k = 2 := by omega
    rcases hk3 with rfl | rfl | rfl
    · obtain ⟨hk1, hl1⟩ := hl 0 l0 (by rw [← hps]; rfl)
      rw [hD] at hk1
      refine ⟨by kernel_rfl, call_same (fn_swrite z0 l0.length c0 N0 o0 (L l0) D (BitVec.ofNat 64 (cat ps 0).length) hDl hN0 hc0 (fun h => by rw [hz0 h]; rfl)) [4, 0, 6] rfl (by (repeat first | exact trivial | refine ent1 ?_)) ?_ (fun _ _ => trivial) ?_⟩
      · (repeat first | exact trivial | refine ent1 ?_)
        refine eqC_bts ?_
        (repeat first | exact trivial | refine ent1 ?_)
      · rintro x hs ⟨rfl, rfl⟩
        rw [hk1, hl1]
        refine ⟨⟨by omega, by omega⟩, 1, [0, 1, 2, 3, 4, 5, 6], ⟨⟨rfl, rfl, rfl⟩, ?_⟩, by dsimp only; omega, by dsimp only; omega⟩
        (repeat first | exact trivial | refine ent1 ?_)
        refine eqC_bts (eqC_bts (eqC_bts ⟨rfl, fun j hj => eqC_P012 hM, ?_⟩))
        (repeat first | exact trivial | refine ent1 ?_)
    · obtain ⟨hk1, hl1⟩ := hl 1 l1 (by rw [← hps]; rfl)
      rw [hD] at hk1
      refine ⟨by kernel_rfl, call_same (fn_swrite z1 l1.length c1 N1 o1 (L l1) D (BitVec.ofNat 64 (cat ps 1).length) hDl hN1 hc1 (fun h => by rw [hz1 h]; rfl)) [4, 1, 6] rfl (by (repeat first | exact trivial | refine ent1 ?_)) ?_ (fun _ _ => trivial) ?_⟩
      · (repeat first | exact trivial | refine ent1 ?_)
        refine eqC_bts ?_
        (repeat first | exact trivial | refine ent1 ?_)
      · rintro x hs ⟨rfl, rfl⟩
        rw [hk1, hl1]
        refine ⟨⟨by omega, by omega⟩, 2, [0, 1, 2, 3, 4, 5, 6], ⟨⟨rfl, rfl, rfl⟩, ?_⟩, by dsimp only; omega, by dsimp only; omega⟩
        (repeat first | exact trivial | refine ent1 ?_)
        refine eqC_bts (eqC_bts (eqC_bts ⟨rfl, fun j hj => eqC_P012 hM, ?_⟩))
        (repeat first | exact trivial | refine ent1 ?_)
    · obtain ⟨hk1, hl1⟩ := hl 2 l2 (by rw [← hps]; rfl)
      rw [hD] at hk1
      refine ⟨by kernel_rfl, call_same (fn_swrite z2 l2.length c2 N2 o2 (L l2) D (BitVec.ofNat 64 (cat ps 2).length) hDl hN2 hc2 (fun h => by rw [hz2 h]; rfl)) [4, 2, 6] rfl (by (repeat first | exact trivial | refine ent1 ?_)) ?_ (fun _ _ => trivial) ?_⟩
      · (repeat first | exact trivial | refine ent1 ?_)
        refine eqC_bts ?_
        (repeat first | exact trivial | refine ent1 ?_)
      · rintro x hs ⟨rfl, rfl⟩
        rw [hk1, hl1]
        refine ⟨⟨by omega, by omega⟩, 3, [0, 1, 2, 3, 4, 5, 6], ⟨⟨rfl, rfl, rfl⟩, ?_⟩, by dsimp only; omega, by dsimp only; omega⟩
        (repeat first | exact trivial | refine ent1 ?_)
        refine eqC_bts (eqC_bts (eqC_bts ⟨rfl, fun j hj => eqC_P012 hM, ?_⟩))
        (repeat first | exact trivial | refine ent1 ?_)
  · obtain rfl : k = m := by have : ¬ (k : Int) < (m : Int) := of_decide_eq_false h; have hk : k ≤ m := hk; omega
    obtain ⟨D, hD⟩ : ∃ D, pushL d0 (cat ps k) = D := ⟨_, rfl⟩
    have hDl : D.h < 64 := by rw [← hD]; exact pushL_lt (by decide) _
    obtain ⟨S, hS⟩ : ∃ S, sumL (cat ps k) = S := ⟨_, rfl⟩
    have hSL : ∀ i, i < 32 → endV D (BitVec.ofNat 64 (cat ps k).length) i = L S i := fun i hi => by rw [← hS, L_sumL _ hi, hD]
    rw [hD]
    refine ⟨by kernel_rfl, call_same (fn_send D (BitVec.ofNat 64 (cat ps k).length) hDl) [4, 6] rfl (by (repeat first | exact trivial | refine ent1 ?_)) (by (repeat first | exact trivial | refine ent1 ?_)) (fun _ _ => trivial) ?_⟩
    rintro x hs ⟨rfl, V', P', h', a', rfl⟩
    (repeat first | refine ⟨by omega, ?_⟩ | refine ⟨by decide, ?_⟩ | refine ⟨idx8 _, ?_⟩ | refine ⟨lt8 (Nat.le_refl _) _, ?_⟩ | refine ⟨rfl, ?_⟩)
    refine ⟨.a (.agg [.row 32 fun i => .w8 (L S i)]), [bts z0 N0 o0 l0.length (L l0), bts z1 N1 o1 l1.length (L l1), bts z2 N2 o2 l2.length (L l2), [.row M (partsF k (nthC [.sn z0 0 0 o0 l0.length c0, .sn z1 1 0 o1 l1.length c1, .sn z2 2 0 o2 l2.length c2]))], shaT 1 0 first steps], ⟨[0, 1, 2, 3, 4], ⟨rfl, rfl, rfl⟩, ?_⟩, by rw [← hS], rfl⟩
    (repeat first | exact trivial | refine ent1 ?_)
    refine ⟨fun j hj => eqC_w8 (congrArg SC.w8 (hSL j hj)), ?_⟩
    refine eqC_bts (eqC_bts (eqC_bts ⟨rfl, fun j hj => eqC_P012 hM, ?_⟩))
    (repeat first | exact trivial | refine ent1 ?_)
end Sx
end Go.Proofs.YtkjdkeolkigibaaGreat
end

section
/-
  SHA-256: a key's mark of at most three parts, each in a block of its own. No condition.
-/
namespace Go.Proofs.YtkjdkeolkigibaaGreat
set_option linter.unusedVariables false
namespace Sha
def keyL (key : Bs) : Bs := if 64 < key.length then sumL key else key
def padL (x : BitVec 8) (K : Bs) : Bs := tab 64 fun i => L K i ^^^ x
def markL (key m : Bs) : Bs := sumL (padL 0x5c#8 (keyL key) ++ sumL (padL 0x36#8 (keyL key) ++ m))
@[simp] theorem padL_len (x : BitVec 8) (K : Bs) : (padL x K).length = 64 := tab_len _ _
theorem keyL_le (key : Bs) : (keyL key).length ≤ 64 := by
  unfold keyL; split
  · rw [sumL_len]; omega
  · omega
@[simp] theorem markL_len (key m : Bs) : (markL key m).length = 32 := tab_len _ _
theorem L_over {l : Bs} {i : Nat} (h : l.length ≤ i) : L l i = 0#8 := by
  unfold L; rw [List.getD_eq_getElem?_getD, List.getElem?_eq_none h]; rfl
end Sha
namespace Sx
open Sha

theorem eqC_P123 {q : List Nat} {m : Nat} (hm : m ≤ 3) {z0 z1 z2 : Bool} {o0 o1 o2 n0 n1 n2 c0 c1 c2 i0 : Nat} {j : Nat} :
    eqC (i0 :: 1 :: 2 :: 3 :: q) (partsF m (nthC [.sn z0 1 0 o0 n0 c0, .sn z1 2 0 o1 n1 c1, .sn z2 3 0 o2 n2 c2]) j) (partsF m (nthC [.sn z0 1 0 o0 n0 c0, .sn z1 2 0 o1 n1 c1, .sn z2 3 0 o2 n2 c2]) j) True :=
  eqC_P3 (q := i0 :: 1 :: 2 :: 3 :: q) (a := .sn z0 1 0 o0 n0 c0) (b := .sn z1 2 0 o1 n1 c1) (c := .sn z2 3 0 o2 n2 c2) hm ⟨rfl, rfl, rfl, rfl, trivial⟩ ⟨rfl, rfl, rfl, rfl, trivial⟩ ⟨rfl, rfl, rfl, rfl, trivial⟩
/-- A copy of a key over noughts. -/
theorem key_row (q : List Nat) (K : Bs) (o m : Nat) (hK : K.length ≤ 64) (hm : m = K.length) (f : Nat → SC) (hf : ∀ i, i < K.length → f (i + o) = .w8 (L K i)) (j : Nat) : updN (fun _ => SC.w8 0#8) 0 m (fun q => f (q + o)) j = .w8 (L K j) := by
  subst hm
  unfold updN
  by_cases hj : j < K.length
  · rw [if_pos ⟨by omega, by omega⟩, Nat.sub_zero]; exact hf j hj
  · rw [if_neg (by omega), L_over (by omega)]
set_option maxHeartbeats 4000000 in
set_option maxRecDepth 20000 in
theorem fn_smark (zk z0 z1 z2 : Bool) (Nk N0 N1 N2 ok o0 o1 o2 ck c0 c1 c2 : Nat) (key l0 l1 l2 : Bs) (cm M m : Nat) (dn : BitVec 32) (f s : Nat → BitVec 32) (hd : dn = 0#32 ∨ dn = 1#32 ∧ f = first ∧ s = steps)
    (hNk : ok + key.length ≤ Nk) (hck : key.length ≤ ck) (hzk : zk = true → key = []) (hN0 : o0 + l0.length ≤ N0) (hc0 : l0.length ≤ c0) (hz0 : z0 = true → l0 = []) (hN1 : o1 + l1.length ≤ N1) (hc1 : l1.length ≤ c1) (hz1 : z1 = true → l1 = []) (hN2 : o2 + l2.length ≤ N2) (hc2 : l2.length ≤ c2) (hz2 : z2 = true → l2 = []) (hm : m ≤ M) (hM : m ≤ 3) :
    FnR Tryz.prog tds 67 5 [bts zk Nk ok key.length (L key), bts z0 N0 o0 l0.length (L l0), bts z1 N1 o1 l1.length (L l1), bts z2 N2 o2 l2.length (L l2), [.row M (partsF m (nthC [.sn z0 1 0 o0 l0.length c0, .sn z1 2 0 o1 l1.length c1, .sn z2 3 0 o2 l2.length c2]))], shaT dn 0 f s] [.c (.p 5 0 0), .c (.sn zk 0 0 ok key.length ck), .c (.sl 4 0 0 m cm)] (fun _ => True)
      (fun x hs => x = .a (.agg [.row 32 fun i => .w8 (L (markL key (cat (ps3 l0 l1 l2) m)) i)]) ∧ hs = [bts zk Nk ok key.length (L key), bts z0 N0 o0 l0.length (L l0), bts z1 N1 o1 l1.length (L l1), bts z2 N2 o2 l2.length (L l2), [.row M (partsF m (nthC [.sn z0 1 0 o0 l0.length c0, .sn z1 2 0 o1 l1.length c1, .sn z2 3 0 o2 l2.length c2]))], shaT 1 0 first steps]) := by
  refine fn_of_body tds_ok follows_ Tryz.func67 rfl (t := [.a (.c (.p 5 0 0)), .a (.c (.sn zk 0 0 ok key.length ck)), .a (.c (.sl 4 0 0 m cm)), .any, .any, .any, .any, .any, .any, .any, .any, .any, .any, .any, .any, .any, .any, .any, .any, .any, .any, .any, .any, .any, .any, .any, .any, .any, .any, .any, .any, .any, .any, .any, .any, .any, .any, .any, .any, .any, .any, .any, .any, .any, .any, .any, .any, .any, .any, .any, .any, .any, .any, .any, .any, .any, .any, .any, .any, .any, .any, .any, .any, .any, .any]) rfl (fun w r0 hr _ => ?_)
  obtain ⟨x0, x1, x2, x3, x4, x5, rfl⟩ := len6' hr
  refine ⟨fun h => Bool.noConfusion h, fun _ => ?_⟩
  obtain ⟨ps, hps⟩ : ∃ ps, ps3 l0 l1 l2 = ps := ⟨_, rfl⟩
  rw [hps]
  obtain ⟨K, hK⟩ : ∃ K, keyL key = K := ⟨_, rfl⟩
  have hKl : K.length ≤ 64 := by rw [← hK]; exact keyL_le _
  have hl : ∀ (k : Nat) (l pre : Bs), ps k = l → pushN (pushL d0 (pre ++ cat ps k)) (L l) l.length = pushL d0 (pre ++ cat ps (k + 1)) ∧ BitVec.ofNat 64 (pre ++ cat ps k).length + BitVec.ofNat 64 l.length = BitVec.ofNat 64 (pre ++ cat ps (k + 1)).length := by
    rintro k l pre rfl
    refine ⟨by rw [pushN_L]; simp only [cat]; rw [← List.append_assoc]; exact (pushL_app _ _ _).symm, by simp only [cat, List.length_append, ofNat_add64, Nat.add_assoc]⟩
  by_cases hlen : 64 < key.length
  · obtain rfl : zk = false := by
      cases zk
      · rfl
      · have := hzk rfl; subst this; simp at hlen
    refine ⟨fun _ => ?_, fun h => absurd (of_decide_eq_false h) (by omega)⟩
    (repeat first | refine ⟨by omega, ?_⟩ | refine ⟨by decide, ?_⟩ | refine ⟨idx8 _, ?_⟩ | refine ⟨lt8 (Nat.le_refl _) _, ?_⟩ | refine ⟨rfl, ?_⟩)
    refine call_same (fn_ssum3 false true true Nk 0 0 ok 0 0 ck 0 0 key [] [] 1 1 1 dn f s hd hNk (by decide) (by decide) hck (by decide) (by decide) hzk (fun _ => rfl) (fun _ => rfl) (by decide) (by decide)) [0, 9, 9, 9, 5] rfl (by (repeat first | exact trivial | refine ent1 ?_)) ?_ (fun _ _ => trivial) ?_
    · (repeat first | exact trivial | refine ent1 ?_)
      refine ⟨fun j hj => eqC_parts (fun i hi => ?_) j, ?_⟩
      · obtain rfl : i = 0 := by omega
        exact ⟨rfl, rfl, rfl, rfl, trivial⟩
      · (repeat first | exact trivial | refine ent1 ?_)
    rintro x hs ⟨rfl, rfl⟩
    have hcat : cat (ps3 key [] []) 1 = key := by simp [cat, ps3]
    rw [hcat]
    have hS0 : sumL key = K := by rw [← hK]; unfold keyL; rw [if_pos hlen]
    have hKl2 : K.length = 32 := by rw [← hS0, sumL_len]
    rw [hS0]
    have hrow := key_row [] K 0 32 hKl hKl2.symm (fun i => .w8 (L K i)) (fun i hi => rfl)
    have hd' : (1 : BitVec 32) = 0#32 ∨ (1 : BitVec 32) = 1#32 ∧ first = first ∧ steps = steps := .inr ⟨rfl, rfl, rfl⟩
    (repeat first | refine ⟨by omega, ?_⟩ | refine ⟨by decide, ?_⟩ | refine ⟨idx8 _, ?_⟩ | refine ⟨lt8 (Nat.le_refl _) _, ?_⟩ | refine ⟨rfl, ?_⟩ | refine ⟨by simp only [scale]; omega, ?_⟩)
    refine .inl ⟨Nat, fun k => ⟨[.a (.c (.p 5 0 0)), .any, .a (.c (.sl 4 0 0 m cm)), .any, .any, .any, .a (.c (.p 6 0 0)), .a (.c (.p 7 0 0)), .a (.c (.p 8 0 0)), .any, .any, .any, .any, .any, .any, .any, .any, .any, .any, .any, .any, .any, .any, .any, .any, .any, .any, .any, .any, .any, .any, .any, .a (.c (.int .i64 (↑k))), .any, .any, .any, .any, .any, .any, .any, .any, .any, .any, .any, .any, .any, .any, .any, .any, .any, .any, .any, .any, .any, .any, .any, .any, .any, .any, .any, .any, .any, .any, .any, .any], [bts false Nk ok key.length (L key), bts z0 N0 o0 l0.length (L l0), bts z1 N1 o1 l1.length (L l1), bts z2 N2 o2 l2.length (L l2), [.row M (partsF m (nthC [.sn z0 1 0 o0 l0.length c0, .sn z1 2 0 o1 l1.length c1, .sn z2 3 0 o2 l2.length c2]))], shaT 1 0 first steps, [.row 32 fun _ => .w8 0#8], [.row 64 fun i => .w8 (if i < k then L K i ^^^ 0x36#8 else L K i)], [.row 64 fun i => .w8 (if i < k then L K i ^^^ 0x5c#8 else L K i)]]⟩,
      fun k => k ≤ 64, fun k => 64 - k, ⟨0, [0, 1, 2, 3, 4, 5, 6, 7, 8], ⟨⟨rfl, rfl, rfl⟩, ?_⟩, by omega⟩, fun k hk => ⟨fun h => ?_, fun h => ?_⟩⟩
    · (repeat first | exact trivial | refine ent1 ?_)
      refine eqC_bts (eqC_bts (eqC_bts ⟨rfl, fun j hj => eqC_P123 hM, ?_⟩))
      (repeat first | exact trivial | refine ent1 ?_)
      refine ⟨fun j hj => eqC_w8 ?_, ?_⟩
      · exact hrow j
      · refine ⟨rfl, fun j hj => eqC_w8 ?_, ?_⟩
        · exact hrow j
        · (repeat first | exact trivial | refine ent1 ?_)
    · have hlt : (k : Int) < 64 := of_decide_eq_true h
      (repeat first | refine ⟨by omega, ?_⟩ | refine ⟨by decide, ?_⟩ | refine ⟨idx8 _, ?_⟩ | refine ⟨lt8 (Nat.le_refl _) _, ?_⟩)
      refine ⟨rfl, ?_⟩
      (repeat first | refine ⟨by omega, ?_⟩ | refine ⟨by decide, ?_⟩ | refine ⟨idx8 _, ?_⟩ | refine ⟨lt8 (Nat.le_refl _) _, ?_⟩)
      refine ⟨rfl, ⟨by omega, by omega⟩, k + 1, [0, 1, 2, 3, 4, 5, 6, 7, 8], ⟨⟨rfl, rfl, rfl⟩, ?_⟩, by dsimp only; omega, by dsimp only; omega⟩
      (repeat first | exact trivial | refine ent1 ?_)
      refine eqC_bts (eqC_bts (eqC_bts ⟨rfl, fun j hj => eqC_P123 hM, ?_⟩))
      (repeat first | exact trivial | refine ent1 ?_)
      have e0 : (k : Int).toNat + 0 = k := by omega
      rw [e0]
      have hx : ∀ (x : BitVec 8) (j : Nat), eqC [0, 1, 2, 3, 4, 5, 6, 7, 8] (upd (fun i => SC.w8 (if i < k then L K i ^^^ x else L K i)) k (.w8 ((if k < k then L K k ^^^ x else L K k) ^^^ x)) j) (.w8 (if j < k + 1 then L K j ^^^ x else L K j)) True := fun x j => by
        unfold upd
        by_cases hj : j = k
        · rw [if_pos hj, if_neg (Nat.lt_irrefl k), hj, if_pos (by omega)]; exact ⟨rfl, trivial⟩
        · have : j < k + 1 ↔ j < k := by omega
          rw [if_neg hj]; simp only [this]; exact ⟨rfl, trivial⟩
      exact ⟨fun j hj => hx _ j, rfl, fun j hj => hx _ j, by (repeat first | exact trivial | refine ent1 ?_)⟩
    · obtain rfl : k = 64 := by have : ¬ (k : Int) < 64 := of_decide_eq_false h; have hk : k ≤ 64 := hk; omega
      refine ⟨by kernel_rfl, call_same (fn_begin 1 first steps hd') [5] rfl (by (repeat first | exact trivial | refine ent1 ?_)) (by (repeat first | exact trivial | refine ent1 ?_)) (fun _ _ => trivial) ?_⟩
      rintro x hs ⟨rfl, rfl⟩
      obtain ⟨IN, hIN⟩ : ∃ IN, padL 0x36#8 K = IN := ⟨_, rfl⟩
      obtain ⟨OU, hOU⟩ : ∃ OU, padL 0x5c#8 K = OU := ⟨_, rfl⟩
      have hINl : IN.length = 64 := by rw [← hIN, padL_len]
      have hOUl : OU.length = 64 := by rw [← hOU, padL_len]
      have hINi : ∀ i, i < 64 → (if i < 64 then L K i ^^^ 0x36#8 else L K i) = L IN i := fun i hi => by rw [if_pos hi, ← hIN]; exact (L_tab (b := fun i => L K i ^^^ 0x36#8) hi).symm
      have hOUi : ∀ i, i < 64 → (if i < 64 then L K i ^^^ 0x5c#8 else L K i) = L OU i := fun i hi => by rw [if_pos hi, ← hOU]; exact (L_tab (b := fun i => L K i ^^^ 0x5c#8) hi).symm
      (repeat first | refine ⟨by omega, ?_⟩ | refine ⟨by decide, ?_⟩ | refine ⟨idx8 _, ?_⟩ | refine ⟨lt8 (Nat.le_refl _) _, ?_⟩ | refine ⟨rfl, ?_⟩)
      have hsw := fn_swrite false 64 64 64 0 (L IN) d0 0 (by decide) (by omega) (by omega) (fun h => Bool.noConfusion h)
      have e1 : pushN d0 (L IN) 64 = pushL d0 (IN ++ cat ps 0) := by rw [← hINl, pushN_L]; simp [cat]
      have e2 : (0 : BitVec 64) + BitVec.ofNat 64 64 = BitVec.ofNat 64 (IN ++ cat ps 0).length := by simp [cat, hINl]
      rw [e1, e2] at hsw
      refine call_same hsw [5, 7, 9] rfl (by (repeat first | exact trivial | refine ent1 ?_)) ?_ (fun _ _ => trivial) ?_
      · (repeat first | exact trivial | refine ent1 ?_)
        refine ⟨fun j hj => eqC_win (f := fun i => SC.w8 (if i < 64 then L K i ^^^ 0x36#8 else L K i)) (fun i hi => congrArg SC.w8 ?_) j, ?_⟩
        · rw [Nat.zero_add]; exact hINi i hi
        · (repeat first | exact trivial | refine ent1 ?_)
      rintro x hs ⟨rfl, rfl⟩
      (repeat first | refine ⟨by omega, ?_⟩ | refine ⟨by decide, ?_⟩ | refine ⟨idx8 _, ?_⟩ | refine ⟨lt8 (Nat.le_refl _) _, ?_⟩ | refine ⟨rfl, ?_⟩)
      refine .inl ⟨Nat, fun k => ⟨[.a (.c (.p 5 0 0)), .any, .any, .any, .any, .any, .a (.c (.p 6 0 0)), .any, .a (.c (.p 8 0 0)), .any, .any, .a (.c (.p 9 0 0)), .any, .any, .any, .any, .any, .any, .any, .any, .any, .any, .any, .any, .any, .any, .any, .any, .any, .any, .any, .any, .any, .any, .any, .any, .any, .any, .any, .any, .any, .any, .any, .any, .any, .any, .any, .any, .any, .any, .a (.c (.sl 4 0 0 m cm)), .a (.c (.int .i64 (↑m))), .a (.c (.int .i64 (↑k))), .any, .any, .any, .any, .any, .any, .any, .any, .any, .any, .any, .any], [bts false Nk ok key.length (L key), bts z0 N0 o0 l0.length (L l0), bts z1 N1 o1 l1.length (L l1), bts z2 N2 o2 l2.length (L l2), [.row M (partsF m (nthC [.sn z0 1 0 o0 l0.length c0, .sn z1 2 0 o1 l1.length c1, .sn z2 3 0 o2 l2.length c2]))], shaT 1 0 first steps, [.row 32 fun _ => .w8 0#8], [], [.row 64 fun i => .w8 (L OU i)], digC 5 (pushL d0 (IN ++ cat ps k)).V (pushL d0 (IN ++ cat ps k)).P (pushL d0 (IN ++ cat ps k)).h (BitVec.ofNat 64 (IN ++ cat ps k).length)]⟩,
        fun k => k ≤ m, fun k => m - k, ⟨0, [0, 1, 2, 3, 4, 5, 6, 7, 8, 9], ⟨⟨rfl, rfl, rfl⟩, ?_⟩, by omega⟩, fun k hk => ⟨fun h => ?_, fun h => ?_⟩⟩
      · (repeat first | exact trivial | refine ent1 ?_)
        refine eqC_bts (eqC_bts (eqC_bts ⟨rfl, fun j hj => eqC_P123 hM, ?_⟩))
        (repeat first | exact trivial | refine ent1 ?_)
        refine ⟨fun j hj => eqC_w8 (congrArg SC.w8 (hOUi j hj)), ?_⟩
        (repeat first | exact trivial | refine ent1 ?_)
      · have hlt : k < m := by have : (k : Int) < (m : Int) := of_decide_eq_true h; omega
        (repeat first | refine ⟨by omega, ?_⟩ | refine ⟨by decide, ?_⟩ | refine ⟨idx8 _, ?_⟩ | refine ⟨lt8 (Nat.le_refl _) _, ?_⟩)
        have e3 : (k : Int).toNat + 0 = k := by omega
        rw [e3]
        refine frc_parts hlt ?_
        obtain ⟨D, hD⟩ : ∃ D, pushL d0 (IN ++ cat ps k) = D := ⟨_, rfl⟩
        have hDl : D.h < 64 := by rw [← hD]; exact pushL_lt (by decide) _
        rw [hD]
        have hk3 : k = 0 ∨ k = 1 ∨ k = 2 := by omega
        rcases hk3 with rfl | rfl | rfl
        · obtain ⟨hk1, hl1⟩ := hl 0 l0 IN (by rw [← hps]; rfl)
          rw [hD] at hk1
          refine ⟨by kernel_rfl, call_same (fn_swrite z0 l0.length c0 N0 o0 (L l0) D (BitVec.ofNat 64 (IN ++ cat ps 0).length) hDl hN0 hc0 (fun h => by rw [hz0 h]; rfl)) [5, 1, 9] rfl (by (repeat first | exact trivial | refine ent1 ?_)) ?_ (fun _ _ => trivial) ?_⟩
          · (repeat first | exact trivial | refine ent1 ?_)
            refine eqC_bts ?_
            (repeat first | exact trivial | refine ent1 ?_)
          · rintro x hs ⟨rfl, rfl⟩
            rw [hk1, hl1]
            refine ⟨⟨by omega, by omega⟩, 1, [0, 1, 2, 3, 4, 5, 6, 7, 8, 9], ⟨⟨rfl, rfl, rfl⟩, ?_⟩, by dsimp only; omega, by dsimp only; omega⟩
            (repeat first | exact trivial | refine ent1 ?_)
            refine eqC_bts (eqC_bts (eqC_bts ⟨rfl, fun j hj => eqC_P123 hM, ?_⟩))
            (repeat first | exact trivial | refine ent1 ?_)
        · obtain ⟨hk1, hl1⟩ := hl 1 l1 IN (by rw [← hps]; rfl)
          rw [hD] at hk1
          refine ⟨by kernel_rfl, call_same (fn_swrite z1 l1.length c1 N1 o1 (L l1) D (BitVec.ofNat 64 (IN ++ cat ps 1).length) hDl hN1 hc1 (fun h => by rw [hz1 h]; rfl)) [5, 2, 9] rfl (by (repeat first | exact trivial | refine ent1 ?_)) ?_ (fun _ _ => trivial) ?_⟩
          · (repeat first | exact trivial | refine ent1 ?_)
            refine eqC_bts ?_
            (repeat first | exact trivial | refine ent1 ?_)
          · rintro x hs ⟨rfl, rfl⟩
            rw [hk1, hl1]
            refine ⟨⟨by omega, by omega⟩, 2, [0, 1, 2, 3, 4, 5, 6, 7, 8, 9], ⟨⟨rfl, rfl, rfl⟩, ?_⟩, by dsimp only; omega, by dsimp only; omega⟩
            (repeat first | exact trivial | refine ent1 ?_)
            refine eqC_bts (eqC_bts (eqC_bts ⟨rfl, fun j hj => eqC_P123 hM, ?_⟩))
            (repeat first | exact trivial | refine ent1 ?_)
        · obtain ⟨hk1, hl1⟩ := hl 2 l2 IN (by rw [← hps]; rfl)
          rw [hD] at hk1
          refine ⟨by kernel_rfl, call_same (fn_swrite z2 l2.length c2 N2 o2 (L l2) D (BitVec.ofNat 64 (IN ++ cat ps 2).length) hDl hN2 hc2 (fun h => by rw [hz2 h]; rfl)) [5, 3, 9] rfl (by (repeat first | exact trivial | refine ent1 ?_)) ?_ (fun _ _ => trivial) ?_⟩
          · (repeat first | exact trivial | refine ent1 ?_)
            refine eqC_bts ?_
            (repeat first | exact trivial | refine ent1 ?_)
          · rintro x hs ⟨rfl, rfl⟩
            rw [hk1, hl1]
            refine ⟨⟨by omega, by omega⟩, 3, [0, 1, 2, 3, 4, 5, 6, 7, 8, 9], ⟨⟨rfl, rfl, rfl⟩, ?_⟩, by dsimp only; omega, by dsimp only; omega⟩
            (repeat first | exact trivial | refine ent1 ?_)
            refine eqC_bts (eqC_bts (eqC_bts ⟨rfl, fun j hj => eqC_P123 hM, ?_⟩))
            (repeat first | exact trivial | refine ent1 ?_)
      · obtain rfl : k = m := by have : ¬ (k : Int) < (m : Int) := of_decide_eq_false h; have hk : k ≤ m := hk; omega
        obtain ⟨D, hD⟩ : ∃ D, pushL d0 (IN ++ cat ps k) = D := ⟨_, rfl⟩
        have hDl : D.h < 64 := by rw [← hD]; exact pushL_lt (by decide) _
        obtain ⟨S, hS⟩ : ∃ S, sumL (IN ++ cat ps k) = S := ⟨_, rfl⟩
        have hSl : S.length = 32 := by rw [← hS, sumL_len]
        have hSL : ∀ i, i < 32 → endV D (BitVec.ofNat 64 (IN ++ cat ps k).length) i = L S i := fun i hi => by rw [← hS, L_sumL _ hi, hD]
        have hM1 : markL key (cat ps k) = sumL (OU ++ S) := by unfold markL; rw [hK, hIN, hOU, hS]
        rw [hD]
        refine ⟨by kernel_rfl, call_same (fn_send D (BitVec.ofNat 64 (IN ++ cat ps k).length) hDl) [5, 9] rfl (by (repeat first | exact trivial | refine ent1 ?_)) (by (repeat first | exact trivial | refine ent1 ?_)) (fun _ _ => trivial) ?_⟩
        rintro x hs ⟨rfl, V', P', h', a', rfl⟩
        (repeat first | refine ⟨by omega, ?_⟩ | refine ⟨by decide, ?_⟩ | refine ⟨idx8 _, ?_⟩ | refine ⟨lt8 (Nat.le_refl _) _, ?_⟩ | refine ⟨rfl, ?_⟩)
        refine ⟨some [], [], [(0, true), (1, true), (2, true), (3, false), (4, false)], [5], by kernel_rfl, ?_⟩
        (repeat first | refine ⟨by omega, ?_⟩ | refine ⟨by decide, ?_⟩ | refine ⟨idx8 _, ?_⟩ | refine ⟨lt8 (Nat.le_refl _) _, ?_⟩ | refine ⟨rfl, ?_⟩)
        refine call_same (fn_ssum3 false false true 64 32 0 0 0 0 64 32 0 OU S [] 2 2 2 1 first steps (.inr ⟨rfl, rfl, rfl⟩) (by omega) (by omega) (by decide) (by omega) (by omega) (by decide) (fun h => Bool.noConfusion h) (fun h => Bool.noConfusion h) (fun _ => rfl) (by decide) (by decide)) [8, 10, 10, 11, 5] rfl (by (repeat first | exact trivial | refine ent1 ?_)) ?_ (fun _ _ => trivial) ?_
        · (repeat first | exact trivial | refine ent1 ?_)
          refine ⟨fun j hj => eqC_win8 (fun i hi => rfl) j, ?_⟩
          (repeat first | exact trivial | refine ent1 ?_)
          refine ⟨fun j hj => eqC_win8 (fun i hi => hSL i (by omega)) j, ?_⟩
          (repeat first | exact trivial | refine ent1 ?_)
          refine ⟨fun j hj => eqC_parts (fun i hi => ?_) j, ?_⟩
          · have : i = 0 ∨ i = 1 := by omega
            rcases this with rfl | rfl
            · exact ⟨rfl, rfl, hOUl.symm, rfl, trivial⟩
            · exact ⟨rfl, rfl, hSl.symm, rfl, trivial⟩
          · (repeat first | exact trivial | refine ent1 ?_)
        rintro x hs ⟨rfl, rfl⟩
        (repeat first | refine ⟨by omega, ?_⟩ | refine ⟨by decide, ?_⟩ | refine ⟨idx8 _, ?_⟩ | refine ⟨lt8 (Nat.le_refl _) _, ?_⟩ | refine ⟨rfl, ?_⟩)
        have hcat : cat (ps3 OU S []) 2 = OU ++ S := by simp [cat, ps3]
        rw [hcat]
        refine ⟨.a (.agg [.row 32 fun i => .w8 (L (markL key (cat ps k)) i)]), [bts false Nk ok key.length (L key), bts z0 N0 o0 l0.length (L l0), bts z1 N1 o1 l1.length (L l1), bts z2 N2 o2 l2.length (L l2), [.row M (partsF k (nthC [.sn z0 1 0 o0 l0.length c0, .sn z1 2 0 o1 l1.length c1, .sn z2 3 0 o2 l2.length c2]))], shaT 1 0 first steps], ⟨[0, 1, 2, 3, 4, 5], ⟨rfl, rfl, rfl⟩, ?_⟩, rfl, rfl⟩
        rw [hM1]
        (repeat first | exact trivial | refine ent1 ?_)
        refine eqC_bts (eqC_bts (eqC_bts ⟨rfl, fun j hj => eqC_P123 hM, ?_⟩))
        (repeat first | exact trivial | refine ent1 ?_)
  refine ⟨fun h => absurd (of_decide_eq_true h) (by omega), fun _ => ?_⟩
  obtain rfl : key = K := by rw [← hK]; unfold keyL; rw [if_neg hlen]
  cases zk with
  | true =>
    obtain rfl := hzk rfl
    have hrow := key_row [] [] 0 0 (by decide) rfl (fun i => .any) (fun i hi => absurd hi (by simp))
    have hd' := hd
    (repeat first | refine ⟨by omega, ?_⟩ | refine ⟨by decide, ?_⟩ | refine ⟨idx8 _, ?_⟩ | refine ⟨lt8 (Nat.le_refl _) _, ?_⟩ | refine ⟨rfl, ?_⟩ | refine ⟨by simp only [scale]; omega, ?_⟩)
    refine ⟨fun q => SC.any, ⟨fun h => rfl, fun h => Bool.noConfusion h⟩, ?_⟩
    (repeat first | refine ⟨by omega, ?_⟩ | refine ⟨by decide, ?_⟩ | refine ⟨idx8 _, ?_⟩ | refine ⟨lt8 (Nat.le_refl _) _, ?_⟩ | refine ⟨rfl, ?_⟩ | refine ⟨by simp only [scale]; omega, ?_⟩)
    refine ⟨fun q => SC.any, ⟨fun h => rfl, fun h => Bool.noConfusion h⟩, ?_⟩
    (repeat first | refine ⟨by omega, ?_⟩ | refine ⟨by decide, ?_⟩ | refine ⟨idx8 _, ?_⟩ | refine ⟨lt8 (Nat.le_refl _) _, ?_⟩ | refine ⟨rfl, ?_⟩ | refine ⟨by simp only [scale]; omega, ?_⟩)
    refine .inl ⟨Nat, fun k => ⟨[.a (.c (.p 5 0 0)), .any, .a (.c (.sl 4 0 0 m cm)), .any, .any, .any, .a (.c (.p 6 0 0)), .a (.c (.p 7 0 0)), .a (.c (.p 8 0 0)), .any, .any, .any, .any, .any, .any, .any, .any, .any, .any, .any, .any, .any, .any, .any, .any, .any, .any, .any, .any, .any, .any, .any, .a (.c (.int .i64 (↑k))), .any, .any, .any, .any, .any, .any, .any, .any, .any, .any, .any, .any, .any, .any, .any, .any, .any, .any, .any, .any, .any, .any, .any, .any, .any, .any, .any, .any, .any, .any, .any, .any], [bts true Nk ok ([] : Bs).length (L ([] : Bs)), bts z0 N0 o0 l0.length (L l0), bts z1 N1 o1 l1.length (L l1), bts z2 N2 o2 l2.length (L l2), [.row M (partsF m (nthC [.sn z0 1 0 o0 l0.length c0, .sn z1 2 0 o1 l1.length c1, .sn z2 3 0 o2 l2.length c2]))], shaT dn 0 f s, [.row 32 fun _ => .w8 0#8], [.row 64 fun i => .w8 (if i < k then L ([] : Bs) i ^^^ 0x36#8 else L ([] : Bs) i)], [.row 64 fun i => .w8 (if i < k then L ([] : Bs) i ^^^ 0x5c#8 else L ([] : Bs) i)]]⟩,
      fun k => k ≤ 64, fun k => 64 - k, ⟨0, [0, 1, 2, 3, 4, 5, 6, 7, 8], ⟨⟨rfl, rfl, rfl⟩, ?_⟩, by omega⟩, fun k hk => ⟨fun h => ?_, fun h => ?_⟩⟩
    · (repeat first | exact trivial | refine ent1 ?_)
      refine eqC_bts (eqC_bts (eqC_bts (eqC_bts ⟨rfl, fun j hj => eqC_P123 hM, ?_⟩)))
      (repeat first | exact trivial | refine ent1 ?_)
    · have hlt : (k : Int) < 64 := of_decide_eq_true h
      (repeat first | refine ⟨by omega, ?_⟩ | refine ⟨by decide, ?_⟩ | refine ⟨idx8 _, ?_⟩ | refine ⟨lt8 (Nat.le_refl _) _, ?_⟩)
      refine ⟨rfl, ?_⟩
      (repeat first | refine ⟨by omega, ?_⟩ | refine ⟨by decide, ?_⟩ | refine ⟨idx8 _, ?_⟩ | refine ⟨lt8 (Nat.le_refl _) _, ?_⟩)
      refine ⟨rfl, ⟨by omega, by omega⟩, k + 1, [0, 1, 2, 3, 4, 5, 6, 7, 8], ⟨⟨rfl, rfl, rfl⟩, ?_⟩, by dsimp only; omega, by dsimp only; omega⟩
      (repeat first | exact trivial | refine ent1 ?_)
      refine eqC_bts (eqC_bts (eqC_bts (eqC_bts ⟨rfl, fun j hj => eqC_P123 hM, ?_⟩)))
      (repeat first | exact trivial | refine ent1 ?_)
      have e0 : (k : Int).toNat + 0 = k := by omega
      rw [e0]
      have hx : ∀ (x : BitVec 8) (j : Nat), eqC [0, 1, 2, 3, 4, 5, 6, 7, 8] (upd (fun i => SC.w8 (if i < k then L ([] : Bs) i ^^^ x else L ([] : Bs) i)) k (.w8 ((if k < k then L ([] : Bs) k ^^^ x else L ([] : Bs) k) ^^^ x)) j) (.w8 (if j < k + 1 then L ([] : Bs) j ^^^ x else L ([] : Bs) j)) True := fun x j => by
        unfold upd
        by_cases hj : j = k
        · rw [if_pos hj, if_neg (Nat.lt_irrefl k), hj, if_pos (by omega)]; exact ⟨rfl, trivial⟩
        · have : j < k + 1 ↔ j < k := by omega
          rw [if_neg hj]; simp only [this]; exact ⟨rfl, trivial⟩
      exact ⟨fun j hj => hx _ j, rfl, fun j hj => hx _ j, by (repeat first | exact trivial | refine ent1 ?_)⟩
    · obtain rfl : k = 64 := by have : ¬ (k : Int) < 64 := of_decide_eq_false h; have hk : k ≤ 64 := hk; omega
      refine ⟨by kernel_rfl, call_same (fn_begin dn f s hd') [5] rfl (by (repeat first | exact trivial | refine ent1 ?_)) (by (repeat first | exact trivial | refine ent1 ?_)) (fun _ _ => trivial) ?_⟩
      rintro x hs ⟨rfl, rfl⟩
      obtain ⟨IN, hIN⟩ : ∃ IN, padL 0x36#8 ([] : Bs) = IN := ⟨_, rfl⟩
      obtain ⟨OU, hOU⟩ : ∃ OU, padL 0x5c#8 ([] : Bs) = OU := ⟨_, rfl⟩
      have hINl : IN.length = 64 := by rw [← hIN, padL_len]
      have hOUl : OU.length = 64 := by rw [← hOU, padL_len]
      have hINi : ∀ i, i < 64 → (if i < 64 then L ([] : Bs) i ^^^ 0x36#8 else L ([] : Bs) i) = L IN i := fun i hi => by rw [if_pos hi, ← hIN]; exact (L_tab (b := fun i => L ([] : Bs) i ^^^ 0x36#8) hi).symm
      have hOUi : ∀ i, i < 64 → (if i < 64 then L ([] : Bs) i ^^^ 0x5c#8 else L ([] : Bs) i) = L OU i := fun i hi => by rw [if_pos hi, ← hOU]; exact (L_tab (b := fun i => L ([] : Bs) i ^^^ 0x5c#8) hi).symm
      (repeat first | refine ⟨by omega, ?_⟩ | refine ⟨by decide, ?_⟩ | refine ⟨idx8 _, ?_⟩ | refine ⟨lt8 (Nat.le_refl _) _, ?_⟩ | refine ⟨rfl, ?_⟩)
      have hsw := fn_swrite false 64 64 64 0 (L IN) d0 0 (by decide) (by omega) (by omega) (fun h => Bool.noConfusion h)
      have e1 : pushN d0 (L IN) 64 = pushL d0 (IN ++ cat ps 0) := by rw [← hINl, pushN_L]; simp [cat]
      have e2 : (0 : BitVec 64) + BitVec.ofNat 64 64 = BitVec.ofNat 64 (IN ++ cat ps 0).length := by simp [cat, hINl]
      rw [e1, e2] at hsw
      refine call_same hsw [5, 7, 9] rfl (by (repeat first | exact trivial | refine ent1 ?_)) ?_ (fun _ _ => trivial) ?_
      · (repeat first | exact trivial | refine ent1 ?_)
        refine ⟨fun j hj => eqC_win (f := fun i => SC.w8 (if i < 64 then L ([] : Bs) i ^^^ 0x36#8 else L ([] : Bs) i)) (fun i hi => congrArg SC.w8 ?_) j, ?_⟩
        · rw [Nat.zero_add]; exact hINi i hi
        · (repeat first | exact trivial | refine ent1 ?_)
      rintro x hs ⟨rfl, rfl⟩
      (repeat first | refine ⟨by omega, ?_⟩ | refine ⟨by decide, ?_⟩ | refine ⟨idx8 _, ?_⟩ | refine ⟨lt8 (Nat.le_refl _) _, ?_⟩ | refine ⟨rfl, ?_⟩)
      refine .inl ⟨Nat, fun k => ⟨[.a (.c (.p 5 0 0)), .any, .any, .any, .any, .any, .a (.c (.p 6 0 0)), .any, .a (.c (.p 8 0 0)), .any, .any, .a (.c (.p 9 0 0)), .any, .any, .any, .any, .any, .any, .any, .any, .any, .any, .any, .any, .any, .any, .any, .any, .any, .any, .any, .any, .any, .any, .any, .any, .any, .any, .any, .any, .any, .any, .any, .any, .any, .any, .any, .any, .any, .any, .a (.c (.sl 4 0 0 m cm)), .a (.c (.int .i64 (↑m))), .a (.c (.int .i64 (↑k))), .any, .any, .any, .any, .any, .any, .any, .any, .any, .any, .any, .any], [bts true Nk ok ([] : Bs).length (L ([] : Bs)), bts z0 N0 o0 l0.length (L l0), bts z1 N1 o1 l1.length (L l1), bts z2 N2 o2 l2.length (L l2), [.row M (partsF m (nthC [.sn z0 1 0 o0 l0.length c0, .sn z1 2 0 o1 l1.length c1, .sn z2 3 0 o2 l2.length c2]))], shaT 1 0 first steps, [.row 32 fun _ => .w8 0#8], [], [.row 64 fun i => .w8 (L OU i)], digC 5 (pushL d0 (IN ++ cat ps k)).V (pushL d0 (IN ++ cat ps k)).P (pushL d0 (IN ++ cat ps k)).h (BitVec.ofNat 64 (IN ++ cat ps k).length)]⟩,
        fun k => k ≤ m, fun k => m - k, ⟨0, [0, 1, 2, 3, 4, 5, 6, 7, 8, 9], ⟨⟨rfl, rfl, rfl⟩, ?_⟩, by omega⟩, fun k hk => ⟨fun h => ?_, fun h => ?_⟩⟩
      · (repeat first | exact trivial | refine ent1 ?_)
        refine eqC_bts (eqC_bts (eqC_bts (eqC_bts ⟨rfl, fun j hj => eqC_P123 hM, ?_⟩)))
        (repeat first | exact trivial | refine ent1 ?_)
        refine ⟨fun j hj => eqC_w8 (congrArg SC.w8 (hOUi j hj)), ?_⟩
        (repeat first | exact trivial | refine ent1 ?_)
      · have hlt : k < m := by have : (k : Int) < (m : Int) := of_decide_eq_true h; omega
        (repeat first | refine ⟨by omega, ?_⟩ | refine ⟨by decide, ?_⟩ | refine ⟨idx8 _, ?_⟩ | refine ⟨lt8 (Nat.le_refl _) _, ?_⟩)
        have e3 : (k : Int).toNat + 0 = k := by omega
        rw [e3]
        refine frc_parts hlt ?_
        obtain ⟨D, hD⟩ : ∃ D, pushL d0 (IN ++ cat ps k) = D := ⟨_, rfl⟩
        have hDl : D.h < 64 := by rw [← hD]; exact pushL_lt (by decide) _
        rw [hD]
        have hk3 : k = 0 ∨ k = 1 ∨ k = 2 := by omega
        rcases hk3 with rfl | rfl | rfl
        · obtain ⟨hk1, hl1⟩ := hl 0 l0 IN (by rw [← hps]; rfl)
          rw [hD] at hk1
          refine ⟨by kernel_rfl, call_same (fn_swrite z0 l0.length c0 N0 o0 (L l0) D (BitVec.ofNat 64 (IN ++ cat ps 0).length) hDl hN0 hc0 (fun h => by rw [hz0 h]; rfl)) [5, 1, 9] rfl (by (repeat first | exact trivial | refine ent1 ?_)) ?_ (fun _ _ => trivial) ?_⟩
          · (repeat first | exact trivial | refine ent1 ?_)
            refine eqC_bts ?_
            (repeat first | exact trivial | refine ent1 ?_)
          · rintro x hs ⟨rfl, rfl⟩
            rw [hk1, hl1]
            refine ⟨⟨by omega, by omega⟩, 1, [0, 1, 2, 3, 4, 5, 6, 7, 8, 9], ⟨⟨rfl, rfl, rfl⟩, ?_⟩, by dsimp only; omega, by dsimp only; omega⟩
            (repeat first | exact trivial | refine ent1 ?_)
            refine eqC_bts (eqC_bts (eqC_bts (eqC_bts ⟨rfl, fun j hj => eqC_P123 hM, ?_⟩)))
            (repeat first | exact trivial | refine ent1 ?_)
        · obtain ⟨hk1, hl1⟩ := hl 1 l1 IN (by rw [← hps]; rfl)
          rw [hD] at hk1
          refine ⟨by kernel_rfl, call_same (fn_swrite z1 l1.length c1 N1 o1 (L l1) D (BitVec.ofNat 64 (IN ++ cat ps 1).length) hDl hN1 hc1 (fun h => by rw [hz1 h]; rfl)) [5, 2, 9] rfl (by (repeat first | exact trivial | refine ent1 ?_)) ?_ (fun _ _ => trivial) ?_⟩
          · (repeat first | exact trivial | refine ent1 ?_)
            refine eqC_bts ?_
            (repeat first | exact trivial | refine ent1 ?_)
          · rintro x hs ⟨rfl, rfl⟩
            rw [hk1, hl1]
            refine ⟨⟨by omega, by omega⟩, 2, [0, 1, 2, 3, 4, 5, 6, 7, 8, 9], ⟨⟨rfl, rfl, rfl⟩, ?_⟩, by dsimp only; omega, by dsimp only; omega⟩
            (repeat first | exact trivial | refine ent1 ?_)
            refine eqC_bts (eqC_bts (eqC_bts (eqC_bts ⟨rfl, fun j hj => eqC_P123 hM, ?_⟩)))
            (repeat first | exact trivial | refine ent1 ?_)
        · obtain ⟨hk1, hl1⟩ := hl 2 l2 IN (by rw [← hps]; rfl)
          rw [hD] at hk1
          refine ⟨by kernel_rfl, call_same (fn_swrite z2 l2.length c2 N2 o2 (L l2) D (BitVec.ofNat 64 (IN ++ cat ps 2).length) hDl hN2 hc2 (fun h => by rw [hz2 h]; rfl)) [5, 3, 9] rfl (by (repeat first | exact trivial | refine ent1 ?_)) ?_ (fun _ _ => trivial) ?_⟩
          · (repeat first | exact trivial | refine ent1 ?_)
            refine eqC_bts ?_
            (repeat first | exact trivial | refine ent1 ?_)
          · rintro x hs ⟨rfl, rfl⟩
            rw [hk1, hl1]
            refine ⟨⟨by omega, by omega⟩, 3, [0, 1, 2, 3, 4, 5, 6, 7, 8, 9], ⟨⟨rfl, rfl, rfl⟩, ?_⟩, by dsimp only; omega, by dsimp only; omega⟩
            (repeat first | exact trivial | refine ent1 ?_)
            refine eqC_bts (eqC_bts (eqC_bts (eqC_bts ⟨rfl, fun j hj => eqC_P123 hM, ?_⟩)))
            (repeat first | exact trivial | refine ent1 ?_)
      · obtain rfl : k = m := by have : ¬ (k : Int) < (m : Int) := of_decide_eq_false h; have hk : k ≤ m := hk; omega
        obtain ⟨D, hD⟩ : ∃ D, pushL d0 (IN ++ cat ps k) = D := ⟨_, rfl⟩
        have hDl : D.h < 64 := by rw [← hD]; exact pushL_lt (by decide) _
        obtain ⟨S, hS⟩ : ∃ S, sumL (IN ++ cat ps k) = S := ⟨_, rfl⟩
        have hSl : S.length = 32 := by rw [← hS, sumL_len]
        have hSL : ∀ i, i < 32 → endV D (BitVec.ofNat 64 (IN ++ cat ps k).length) i = L S i := fun i hi => by rw [← hS, L_sumL _ hi, hD]
        have hM1 : markL ([] : Bs) (cat ps k) = sumL (OU ++ S) := by unfold markL; rw [hK, hIN, hOU, hS]
        rw [hD]
        refine ⟨by kernel_rfl, call_same (fn_send D (BitVec.ofNat 64 (IN ++ cat ps k).length) hDl) [5, 9] rfl (by (repeat first | exact trivial | refine ent1 ?_)) (by (repeat first | exact trivial | refine ent1 ?_)) (fun _ _ => trivial) ?_⟩
        rintro x hs ⟨rfl, V', P', h', a', rfl⟩
        (repeat first | refine ⟨by omega, ?_⟩ | refine ⟨by decide, ?_⟩ | refine ⟨idx8 _, ?_⟩ | refine ⟨lt8 (Nat.le_refl _) _, ?_⟩ | refine ⟨rfl, ?_⟩)
        refine ⟨some [], [], [(0, true), (1, true), (2, true), (3, false), (4, false)], [5], by kernel_rfl, ?_⟩
        (repeat first | refine ⟨by omega, ?_⟩ | refine ⟨by decide, ?_⟩ | refine ⟨idx8 _, ?_⟩ | refine ⟨lt8 (Nat.le_refl _) _, ?_⟩ | refine ⟨rfl, ?_⟩)
        refine call_same (fn_ssum3 false false true 64 32 0 0 0 0 64 32 0 OU S [] 2 2 2 1 first steps (.inr ⟨rfl, rfl, rfl⟩) (by omega) (by omega) (by decide) (by omega) (by omega) (by decide) (fun h => Bool.noConfusion h) (fun h => Bool.noConfusion h) (fun _ => rfl) (by decide) (by decide)) [8, 10, 10, 11, 5] rfl (by (repeat first | exact trivial | refine ent1 ?_)) ?_ (fun _ _ => trivial) ?_
        · (repeat first | exact trivial | refine ent1 ?_)
          refine ⟨fun j hj => eqC_win8 (fun i hi => rfl) j, ?_⟩
          (repeat first | exact trivial | refine ent1 ?_)
          refine ⟨fun j hj => eqC_win8 (fun i hi => hSL i (by omega)) j, ?_⟩
          (repeat first | exact trivial | refine ent1 ?_)
          refine ⟨fun j hj => eqC_parts (fun i hi => ?_) j, ?_⟩
          · have : i = 0 ∨ i = 1 := by omega
            rcases this with rfl | rfl
            · exact ⟨rfl, rfl, hOUl.symm, rfl, trivial⟩
            · exact ⟨rfl, rfl, hSl.symm, rfl, trivial⟩
          · (repeat first | exact trivial | refine ent1 ?_)
        rintro x hs ⟨rfl, rfl⟩
        (repeat first | refine ⟨by omega, ?_⟩ | refine ⟨by decide, ?_⟩ | refine ⟨idx8 _, ?_⟩ | refine ⟨lt8 (Nat.le_refl _) _, ?_⟩ | refine ⟨rfl, ?_⟩)
        have hcat : cat (ps3 OU S []) 2 = OU ++ S := by simp [cat, ps3]
        rw [hcat]
        refine ⟨.a (.agg [.row 32 fun i => .w8 (L (markL ([] : Bs) (cat ps k)) i)]), [bts true Nk ok ([] : Bs).length (L ([] : Bs)), bts z0 N0 o0 l0.length (L l0), bts z1 N1 o1 l1.length (L l1), bts z2 N2 o2 l2.length (L l2), [.row M (partsF k (nthC [.sn z0 1 0 o0 l0.length c0, .sn z1 2 0 o1 l1.length c1, .sn z2 3 0 o2 l2.length c2]))], shaT 1 0 first steps], ⟨[0, 1, 2, 3, 4, 5], ⟨rfl, rfl, rfl⟩, ?_⟩, rfl, rfl⟩
        rw [hM1]
        (repeat first | exact trivial | refine ent1 ?_)
        refine eqC_bts (eqC_bts (eqC_bts (eqC_bts ⟨rfl, fun j hj => eqC_P123 hM, ?_⟩)))
        (repeat first | exact trivial | refine ent1 ?_)
  | false =>
    have hrow := key_row [] key ok (min key.length 64) (by omega) (by omega) (winF ok key.length (L key)) (fun i hi => by rw [Nat.add_comm]; exact winF_at _ _ _ hi)
    have hd' := hd
    (repeat first | refine ⟨by omega, ?_⟩ | refine ⟨by decide, ?_⟩ | refine ⟨idx8 _, ?_⟩ | refine ⟨lt8 (Nat.le_refl _) _, ?_⟩ | refine ⟨rfl, ?_⟩ | refine ⟨by simp only [scale]; omega, ?_⟩)
    refine ⟨fun q => winF ok key.length (L key) (q + ok), ⟨fun h => Bool.noConfusion h, fun h => ⟨Nk, winF ok key.length (L key), [], rfl, by simp only [scale]; omega, fun _ _ => rfl⟩⟩, ?_⟩
    (repeat first | refine ⟨by omega, ?_⟩ | refine ⟨by decide, ?_⟩ | refine ⟨idx8 _, ?_⟩ | refine ⟨lt8 (Nat.le_refl _) _, ?_⟩ | refine ⟨rfl, ?_⟩ | refine ⟨by simp only; omega, ?_⟩)
    refine ⟨fun q => winF ok key.length (L key) (q + ok), ⟨fun h => Bool.noConfusion h, fun h => ⟨Nk, winF ok key.length (L key), [], rfl, by simp only [scale]; omega, fun _ _ => rfl⟩⟩, ?_⟩
    (repeat first | refine ⟨by omega, ?_⟩ | refine ⟨by decide, ?_⟩ | refine ⟨idx8 _, ?_⟩ | refine ⟨lt8 (Nat.le_refl _) _, ?_⟩ | refine ⟨rfl, ?_⟩ | refine ⟨by simp only; omega, ?_⟩)
    refine .inl ⟨Nat, fun k => ⟨[.a (.c (.p 5 0 0)), .any, .a (.c (.sl 4 0 0 m cm)), .any, .any, .any, .a (.c (.p 6 0 0)), .a (.c (.p 7 0 0)), .a (.c (.p 8 0 0)), .any, .any, .any, .any, .any, .any, .any, .any, .any, .any, .any, .any, .any, .any, .any, .any, .any, .any, .any, .any, .any, .any, .any, .a (.c (.int .i64 (↑k))), .any, .any, .any, .any, .any, .any, .any, .any, .any, .any, .any, .any, .any, .any, .any, .any, .any, .any, .any, .any, .any, .any, .any, .any, .any, .any, .any, .any, .any, .any, .any, .any], [bts false Nk ok key.length (L key), bts z0 N0 o0 l0.length (L l0), bts z1 N1 o1 l1.length (L l1), bts z2 N2 o2 l2.length (L l2), [.row M (partsF m (nthC [.sn z0 1 0 o0 l0.length c0, .sn z1 2 0 o1 l1.length c1, .sn z2 3 0 o2 l2.length c2]))], shaT dn 0 f s, [.row 32 fun _ => .w8 0#8], [.row 64 fun i => .w8 (if i < k then L key i ^^^ 0x36#8 else L key i)], [.row 64 fun i => .w8 (if i < k then L key i ^^^ 0x5c#8 else L key i)]]⟩,
      fun k => k ≤ 64, fun k => 64 - k, ⟨0, [0, 1, 2, 3, 4, 5, 6, 7, 8], ⟨⟨rfl, rfl, rfl⟩, ?_⟩, by omega⟩, fun k hk => ⟨fun h => ?_, fun h => ?_⟩⟩
    · (repeat first | exact trivial | refine ent1 ?_)
      refine eqC_bts (eqC_bts (eqC_bts ⟨rfl, fun j hj => eqC_P123 hM, ?_⟩))
      (repeat first | exact trivial | refine ent1 ?_)
      refine ⟨fun j hj => eqC_w8 ?_, ?_⟩
      · exact hrow j
      · refine ⟨rfl, fun j hj => eqC_w8 ?_, ?_⟩
        · exact hrow j
        · (repeat first | exact trivial | refine ent1 ?_)
    · have hlt : (k : Int) < 64 := of_decide_eq_true h
      (repeat first | refine ⟨by omega, ?_⟩ | refine ⟨by decide, ?_⟩ | refine ⟨idx8 _, ?_⟩ | refine ⟨lt8 (Nat.le_refl _) _, ?_⟩)
      refine ⟨rfl, ?_⟩
      (repeat first | refine ⟨by omega, ?_⟩ | refine ⟨by decide, ?_⟩ | refine ⟨idx8 _, ?_⟩ | refine ⟨lt8 (Nat.le_refl _) _, ?_⟩)
      refine ⟨rfl, ⟨by omega, by omega⟩, k + 1, [0, 1, 2, 3, 4, 5, 6, 7, 8], ⟨⟨rfl, rfl, rfl⟩, ?_⟩, by dsimp only; omega, by dsimp only; omega⟩
      (repeat first | exact trivial | refine ent1 ?_)
      refine eqC_bts (eqC_bts (eqC_bts ⟨rfl, fun j hj => eqC_P123 hM, ?_⟩))
      (repeat first | exact trivial | refine ent1 ?_)
      have e0 : (k : Int).toNat + 0 = k := by omega
      rw [e0]
      have hx : ∀ (x : BitVec 8) (j : Nat), eqC [0, 1, 2, 3, 4, 5, 6, 7, 8] (upd (fun i => SC.w8 (if i < k then L key i ^^^ x else L key i)) k (.w8 ((if k < k then L key k ^^^ x else L key k) ^^^ x)) j) (.w8 (if j < k + 1 then L key j ^^^ x else L key j)) True := fun x j => by
        unfold upd
        by_cases hj : j = k
        · rw [if_pos hj, if_neg (Nat.lt_irrefl k), hj, if_pos (by omega)]; exact ⟨rfl, trivial⟩
        · have : j < k + 1 ↔ j < k := by omega
          rw [if_neg hj]; simp only [this]; exact ⟨rfl, trivial⟩
      exact ⟨fun j hj => hx _ j, rfl, fun j hj => hx _ j, by (repeat first | exact trivial | refine ent1 ?_)⟩
    · obtain rfl : k = 64 := by have : ¬ (k : Int) < 64 := of_decide_eq_false h; have hk : k ≤ 64 := hk; omega
      refine ⟨by kernel_rfl, call_same (fn_begin dn f s hd') [5] rfl (by (repeat first | exact trivial | refine ent1 ?_)) (by (repeat first | exact trivial | refine ent1 ?_)) (fun _ _ => trivial) ?_⟩
      rintro x hs ⟨rfl, rfl⟩
      obtain ⟨IN, hIN⟩ : ∃ IN, padL 0x36#8 key = IN := ⟨_, rfl⟩
      obtain ⟨OU, hOU⟩ : ∃ OU, padL 0x5c#8 key = OU := ⟨_, rfl⟩
      have hINl : IN.length = 64 := by rw [← hIN, padL_len]
      have hOUl : OU.length = 64 := by rw [← hOU, padL_len]
      have hINi : ∀ i, i < 64 → (if i < 64 then L key i ^^^ 0x36#8 else L key i) = L IN i := fun i hi => by rw [if_pos hi, ← hIN]; exact (L_tab (b := fun i => L key i ^^^ 0x36#8) hi).symm
      have hOUi : ∀ i, i < 64 → (if i < 64 then L key i ^^^ 0x5c#8 else L key i) = L OU i := fun i hi => by rw [if_pos hi, ← hOU]; exact (L_tab (b := fun i => L key i ^^^ 0x5c#8) hi).symm
      (repeat first | refine ⟨by omega, ?_⟩ | refine ⟨by decide, ?_⟩ | refine ⟨idx8 _, ?_⟩ | refine ⟨lt8 (Nat.le_refl _) _, ?_⟩ | refine ⟨rfl, ?_⟩)
      have hsw := fn_swrite false 64 64 64 0 (L IN) d0 0 (by decide) (by omega) (by omega) (fun h => Bool.noConfusion h)
      have e1 : pushN d0 (L IN) 64 = pushL d0 (IN ++ cat ps 0) := by rw [← hINl, pushN_L]; simp [cat]
      have e2 : (0 : BitVec 64) + BitVec.ofNat 64 64 = BitVec.ofNat 64 (IN ++ cat ps 0).length := by simp [cat, hINl]
      rw [e1, e2] at hsw
      refine call_same hsw [5, 7, 9] rfl (by (repeat first | exact trivial | refine ent1 ?_)) ?_ (fun _ _ => trivial) ?_
      · (repeat first | exact trivial | refine ent1 ?_)
        refine ⟨fun j hj => eqC_win (f := fun i => SC.w8 (if i < 64 then L key i ^^^ 0x36#8 else L key i)) (fun i hi => congrArg SC.w8 ?_) j, ?_⟩
        · rw [Nat.zero_add]; exact hINi i hi
        · (repeat first | exact trivial | refine ent1 ?_)
      rintro x hs ⟨rfl, rfl⟩
      (repeat first | refine ⟨by omega, ?_⟩ | refine ⟨by decide, ?_⟩ | refine ⟨idx8 _, ?_⟩ | refine ⟨lt8 (Nat.le_refl _) _, ?_⟩ | refine ⟨rfl, ?_⟩)
      refine .inl ⟨Nat, fun k => ⟨[.a (.c (.p 5 0 0)), .any, .any, .any, .any, .any, .a (.c (.p 6 0 0)), .any, .a (.c (.p 8 0 0)), .any, .any, .a (.c (.p 9 0 0)), .any, .any, .any, .any, .any, .any, .any, .any, .any, .any, .any, .any, .any, .any, .any, .any, .any, .any, .any, .any, .any, .any, .any, .any, .any, .any, .any, .any, .any, .any, .any, .any, .any, .any, .any, .any, .any, .any, .a (.c (.sl 4 0 0 m cm)), .a (.c (.int .i64 (↑m))), .a (.c (.int .i64 (↑k))), .any, .any, .any, .any, .any, .any, .any, .any, .any, .any, .any, .any], [bts false Nk ok key.length (L key), bts z0 N0 o0 l0.length (L l0), bts z1 N1 o1 l1.length (L l1), bts z2 N2 o2 l2.length (L l2), [.row M (partsF m (nthC [.sn z0 1 0 o0 l0.length c0, .sn z1 2 0 o1 l1.length c1, .sn z2 3 0 o2 l2.length c2]))], shaT 1 0 first steps, [.row 32 fun _ => .w8 0#8], [], [.row 64 fun i => .w8 (L OU i)], digC 5 (pushL d0 (IN ++ cat ps k)).V (pushL d0 (IN ++ cat ps k)).P (pushL d0 (IN ++ cat ps k)).h (BitVec.ofNat 64 (IN ++ cat ps k).length)]⟩,
        fun k => k ≤ m, fun k => m - k, ⟨0, [0, 1, 2, 3, 4, 5, 6, 7, 8, 9], ⟨⟨rfl, rfl, rfl⟩, ?_⟩, by omega⟩, fun k hk => ⟨fun h => ?_, fun h => ?_⟩⟩
      · (repeat first | exact trivial | refine ent1 ?_)
        refine eqC_bts (eqC_bts (eqC_bts ⟨rfl, fun j hj => eqC_P123 hM, ?_⟩))
        (repeat first | exact trivial | refine ent1 ?_)
        refine ⟨fun j hj => eqC_w8 (congrArg SC.w8 (hOUi j hj)), ?_⟩
        (repeat first | exact trivial | refine ent1 ?_)
      · have hlt : k < m := by have : (k : Int) < (m : Int) := of_decide_eq_true h; omega
        (repeat first | refine ⟨by omega, ?_⟩ | refine ⟨by decide, ?_⟩ | refine ⟨idx8 _, ?_⟩ | refine ⟨lt8 (Nat.le_refl _) _, ?_⟩)
        have e3 : (k : Int).toNat + 0 = k := by omega
        rw [e3]
        refine frc_parts hlt ?_
        obtain ⟨D, hD⟩ : ∃ D, pushL d0 (IN ++ cat ps k) = D := ⟨_, rfl⟩
        have hDl : D.h < 64 := by rw [← hD]; exact pushL_lt (by decide) _
        rw [hD]
        have hk3 : k = 0 ∨ k = 1 ∨ k = 2 := by omega
        rcases hk3 with rfl | rfl | rfl
        · obtain ⟨hk1, hl1⟩ := hl 0 l0 IN (by rw [← hps]; rfl)
          rw [hD] at hk1
          refine ⟨by kernel_rfl, call_same (fn_swrite z0 l0.length c0 N0 o0 (L l0) D (BitVec.ofNat 64 (IN ++ cat ps 0).length) hDl hN0 hc0 (fun h => by rw [hz0 h]; rfl)) [5, 1, 9] rfl (by (repeat first | exact trivial | refine ent1 ?_)) ?_ (fun _ _ => trivial) ?_⟩
          · (repeat first | exact trivial | refine ent1 ?_)
            refine eqC_bts ?_
            (repeat first | exact trivial | refine ent1 ?_)
          · rintro x hs ⟨rfl, rfl⟩
            rw [hk1, hl1]
            refine ⟨⟨by omega, by omega⟩, 1, [0, 1, 2, 3, 4, 5, 6, 7, 8, 9], ⟨⟨rfl, rfl, rfl⟩, ?_⟩, by dsimp only; omega, by dsimp only; omega⟩
            (repeat first | exact trivial | refine ent1 ?_)
            refine eqC_bts (eqC_bts (eqC_bts ⟨rfl, fun j hj => eqC_P123 hM, ?_⟩))
            (repeat first | exact trivial | refine ent1 ?_)
        · obtain ⟨hk1, hl1⟩ := hl 1 l1 IN (by rw [← hps]; rfl)
          rw [hD] at hk1
          refine ⟨by kernel_rfl, call_same (fn_swrite z1 l1.length c1 N1 o1 (L l1) D (BitVec.ofNat 64 (IN ++ cat ps 1).length) hDl hN1 hc1 (fun h => by rw [hz1 h]; rfl)) [5, 2, 9] rfl (by (repeat first | exact trivial | refine ent1 ?_)) ?_ (fun _ _ => trivial) ?_⟩
          · (repeat first | exact trivial | refine ent1 ?_)
            refine eqC_bts ?_
            (repeat first | exact trivial | refine ent1 ?_)
          · rintro x hs ⟨rfl, rfl⟩
            rw [hk1, hl1]
            refine ⟨⟨by omega, by omega⟩, 2, [0, 1, 2, 3, 4, 5, 6, 7, 8, 9], ⟨⟨rfl, rfl, rfl⟩, ?_⟩, by dsimp only; omega, by dsimp only; omega⟩
            (repeat first | exact trivial | refine ent1 ?_)
            refine eqC_bts (eqC_bts (eqC_bts ⟨rfl, fun j hj => eqC_P123 hM, ?_⟩))
            (repeat first | exact trivial | refine ent1 ?_)
        · obtain ⟨hk1, hl1⟩ := hl 2 l2 IN (by rw [← hps]; rfl)
          rw [hD] at hk1
          refine ⟨by kernel_rfl, call_same (fn_swrite z2 l2.length c2 N2 o2 (L l2) D (BitVec.ofNat 64 (IN ++ cat ps 2).length) hDl hN2 hc2 (fun h => by rw [hz2 h]; rfl)) [5, 3, 9] rfl (by (repeat first | exact trivial | refine ent1 ?_)) ?_ (fun _ _ => trivial) ?_⟩
          · (repeat first | exact trivial | refine ent1 ?_)
            refine eqC_bts ?_
            (repeat first | exact trivial | refine ent1 ?_)
          · rintro x hs ⟨rfl, rfl⟩
            rw [hk1, hl1]
            refine ⟨⟨by omega, by omega⟩, 3, [0, 1, 2, 3, 4, 5, 6, 7, 8, 9], ⟨⟨rfl, rfl, rfl⟩, ?_⟩, by dsimp only; omega, by dsimp only; omega⟩
            (repeat first | exact trivial | refine ent1 ?_)
            refine eqC_bts (eqC_bts (eqC_bts ⟨rfl, fun j hj => eqC_P123 hM, ?_⟩))
            (repeat first | exact trivial | refine ent1 ?_)
      · obtain rfl : k = m := by have : ¬ (k : Int) < (m : Int) := of_decide_eq_false h; have hk : k ≤ m := hk; omega
        obtain ⟨D, hD⟩ : ∃ D, pushL d0 (IN ++ cat ps k) = D := ⟨_, rfl⟩
        have hDl : D.h < 64 := by rw [← hD]; exact pushL_lt (by decide) _
        obtain ⟨S, hS⟩ : ∃ S, sumL (IN ++ cat ps k) = S := ⟨_, rfl⟩
        have hSl : S.length = 32 := by rw [← hS, sumL_len]
        have hSL : ∀ i, i < 32 → endV D (BitVec.ofNat 64 (IN ++ cat ps k).length) i = L S i := fun i hi => by rw [← hS, L_sumL _ hi, hD]
        have hM1 : markL key (cat ps k) = sumL (OU ++ S) := by unfold markL; rw [hK, hIN, hOU, hS]
        rw [hD]
        refine ⟨by kernel_rfl, call_same (fn_send D (BitVec.ofNat 64 (IN ++ cat ps k).length) hDl) [5, 9] rfl (by (repeat first | exact trivial | refine ent1 ?_)) (by (repeat first | exact trivial | refine ent1 ?_)) (fun _ _ => trivial) ?_⟩
        rintro x hs ⟨rfl, V', P', h', a', rfl⟩
        (repeat first | refine ⟨by omega, ?_⟩ | refine ⟨by decide, ?_⟩ | refine ⟨idx8 _, ?_⟩ | refine ⟨lt8 (Nat.le_refl _) _, ?_⟩ | refine ⟨rfl, ?_⟩)
        refine ⟨some [], [], [(0, true), (1, true), (2, true), (3, false), (4, false)], [5], by kernel_rfl, ?_⟩
        (repeat first | refine ⟨by omega, ?_⟩ | refine ⟨by decide, ?_⟩ | refine ⟨idx8 _, ?_⟩ | refine ⟨lt8 (Nat.le_refl _) _, ?_⟩ | refine ⟨rfl, ?_⟩)
        refine call_same (fn_ssum3 false false true 64 32 0 0 0 0 64 32 0 OU S [] 2 2 2 1 first steps (.inr ⟨rfl, rfl, rfl⟩) (by omega) (by omega) (by decide) (by omega) (by omega) (by decide) (fun h => Bool.noConfusion h) (fun h => Bool.noConfusion h) (fun _ => rfl) (by decide) (by decide)) [8, 10, 10, 11, 5] rfl (by (repeat first | exact trivial | refine ent1 ?_)) ?_ (fun _ _ => trivial) ?_
        · (repeat first | exact trivial | refine ent1 ?_)
          refine ⟨fun j hj => eqC_win8 (fun i hi => rfl) j, ?_⟩
          (repeat first | exact trivial | refine ent1 ?_)
          refine ⟨fun j hj => eqC_win8 (fun i hi => hSL i (by omega)) j, ?_⟩
          (repeat first | exact trivial | refine ent1 ?_)
          refine ⟨fun j hj => eqC_parts (fun i hi => ?_) j, ?_⟩
          · have : i = 0 ∨ i = 1 := by omega
            rcases this with rfl | rfl
            · exact ⟨rfl, rfl, hOUl.symm, rfl, trivial⟩
            · exact ⟨rfl, rfl, hSl.symm, rfl, trivial⟩
          · (repeat first | exact trivial | refine ent1 ?_)
        rintro x hs ⟨rfl, rfl⟩
        (repeat first | refine ⟨by omega, ?_⟩ | refine ⟨by decide, ?_⟩ | refine ⟨idx8 _, ?_⟩ | refine ⟨lt8 (Nat.le_refl _) _, ?_⟩ | refine ⟨rfl, ?_⟩)
        have hcat : cat (ps3 OU S []) 2 = OU ++ S := by simp [cat, ps3]
        rw [hcat]
        refine ⟨.a (.agg [.row 32 fun i => .w8 (L (markL key (cat ps k)) i)]), [bts false Nk ok key.length (L key), bts z0 N0 o0 l0.length (L l0), bts z1 N1 o1 l1.length (L l1), bts z2 N2 o2 l2.length (L l2), [.row M (partsF k (nthC [.sn z0 1 0 o0 l0.length c0, .sn z1 2 0 o1 l1.length c1, .sn z2 3 0 o2 l2.length c2]))], shaT 1 0 first steps], ⟨[0, 1, 2, 3, 4, 5], ⟨rfl, rfl, rfl⟩, ?_⟩, rfl, rfl⟩
        rw [hM1]
        (repeat first | exact trivial | refine ent1 ?_)
        refine eqC_bts (eqC_bts (eqC_bts ⟨rfl, fun j hj => eqC_P123 hM, ?_⟩))
        (repeat first | exact trivial | refine ent1 ?_)
end Sx
end Go.Proofs.YtkjdkeolkigibaaGreat
end

section
/-
  SHA-256: a message filled up; the document's words. Plain. No condition.
-/
namespace Go.Proofs.YtkjdkeolkigibaaGreat
set_option linter.unusedVariables false
namespace Sha

/-- What comes behind a message. -/
def padT (n : Nat) : Bs := tab (padP (n % 64) + 8) (padB (padP (n % 64)) (BitVec.ofNat 64 n * 8#64))
def full (l : Bs) : Bs := l ++ padT l.length
@[simp] theorem padT_len (n : Nat) : (padT n).length = padP (n % 64) + 8 := tab_len _ _
theorem full_len (l : Bs) : (full l).length = l.length + (padP (l.length % 64) + 8) := by simp [full]
theorem byte_in (x : BitVec 32) (p : BitVec 8) : x * 256#32 + p.setWidth 32 = x <<< 8 ||| p.setWidth 32 := by
  have h1 : x * 256#32 = x <<< 8 := by
    apply BitVec.eq_of_toNat_eq
    rw [BitVec.toNat_mul, BitVec.toNat_shiftLeft, Nat.shiftLeft_eq]
    rfl
  rw [h1]
  apply BitVec.add_eq_or_of_and_eq_zero
  apply BitVec.eq_of_getLsbD_eq
  intro i hi
  simp only [BitVec.getLsbD_and, BitVec.getLsbD_shiftLeft, BitVec.getLsbD_setWidth, BitVec.getLsbD_zero]
  by_cases h : i < 8
  · simp [h]
  · rw [BitVec.getLsbD_of_ge p i (by omega)]; simp
/-- Four bytes, one behind the other. -/
theorem four (p0 p1 p2 p3 : BitVec 8) : (((0#32 * 256#32 + p0.setWidth 32) * 256#32 + p1.setWidth 32) * 256#32 + p2.setWidth 32) * 256#32 + p3.setWidth 32 = p0.setWidth 32 <<< 24 ||| p1.setWidth 32 <<< 16 ||| p2.setWidth 32 <<< 8 ||| p3.setWidth 32 := by
  simp only [byte_in, BitVec.shiftLeft_or_distrib, ← BitVec.shiftLeft_add, BitVec.zero_shiftLeft, BitVec.zero_or]
end Sha
end Go.Proofs.YtkjdkeolkigibaaGreat
end

section
/-
  SHA-256: the document's sum. No condition.
-/
namespace Go.Proofs.YtkjdkeolkigibaaGreat
set_option linter.unusedVariables false
namespace Sx
open Sha

end Sx
end Go.Proofs.YtkjdkeolkigibaaGreat
end

section
/-
  SHA-256: the document's mark. No condition.
-/
namespace Go.Proofs.YtkjdkeolkigibaaGreat
set_option linter.unusedVariables false
namespace Sx
open Sha

end Sx
end Go.Proofs.YtkjdkeolkigibaaGreat
end

section
/-
  SHA-256 reckoned by the kernel: the same sums, each word made whole before it is used. Plain. No condition.
-/
namespace Go.Proofs.YtkjdkeolkigibaaGreat
set_option linter.unusedVariables false
namespace Sha
section
variable {α : Sort _}
end
section
variable {α : Sort _}
/-- The newest first. -/
def Rep (l : List (BitVec 32)) (m : Nat) (W : Nat → BitVec 32) : Prop := l.length = m ∧ ∀ j, j < m → l.getD (m - 1 - j) 0 = W j
theorem Rep.cons {l : List (BitVec 32)} {m : Nat} {W : Nat → BitVec 32} (h : Rep l m W) : Rep (W m :: l) (m + 1) W :=
  ⟨by simp [h.1], fun j hj => by
    by_cases e : j = m
    · subst e; rw [show j + 1 - 1 - j = 0 by omega]; rfl
    · rw [show m + 1 - 1 - j = (m - 1 - j) + 1 by omega, List.getD_cons_succ]
      exact h.2 j (by omega)⟩
end
end Sha
end Go.Proofs.YtkjdkeolkigibaaGreat
end

section
/-
  From a function over blocks to a law's walk: arguments opened. Over any program. No condition of its own.
-/
namespace Go.Proofs.YtkjdkeolkigibaaGreat
set_option linter.unusedVariables false
namespace Sx
open Go.RowKit Go.ChangeShapes Go.WideShapes

section
variable {H : Type} {enc : TypeId × Value → H} {P : Program} {w : World} {base : Nat} {sp : Nat → Bool} {held : Bool}
theorem wf_w8 {a : Int} (h : (Lit.int .u8 a).wf = true) : a = ((BitVec.ofInt 8 a).toNat : Int) := by
  have := bounds_u8 h
  rw [BitVec.toNat_ofInt]
  omega
/-- An array of bytes as an argument. -/
theorem open_arr8 {n : Nat} {t e : TypeId} (ht : P.underlying t = some (.array n e)) (he : P.underlying e = some (.int .u8)) (hc : P.cellsOf e = 1) (hn : P.cellsOf t = n) {r : Reach} {b0 : Nat} {v : Value} {d : DataW H} {p : List MemPlace}
    (hval : Value.okWide P w r b0 t v) (h : DataW.Trod enc P w base sp held t v d p) : ∃ f : Nat → BitVec 8, v = .agg ((List.range n).map fun i => Value.int .u8 ((f i).toNat : Int)).toArray := by
  obtain ⟨cs, rfl, hsz⟩ : ∃ cs, v = .agg cs ∧ cs.size = P.cellsOf t := by
    simp only [Value.okWide, ht] at hval
    obtain ⟨cs, h1, h2, _⟩ := hval
    exact ⟨cs, h1, h2⟩
  obtain ⟨fuel, hf⟩ := h
  obtain ⟨xs, m, _, _, hl, hx, hel⟩ := DataW.trod_array ht hf
  have cell : ∀ i, i < n → ∃ x : Int, cs[i]? = some (.int .u8 x) ∧ (Lit.int .u8 x).wf = true := by
    intro i hi
    have h1 := hel i hi
    rw [hc, Nat.mul_one, List.getElem?_eq_getElem (by omega)] at h1
    obtain ⟨x, e1, _, wx⟩ := DataW.trod_int he h1
    refine ⟨x, ?_, wx⟩
    have hi2 : i < cs.size := by omega
    have h2 : ((Value.agg cs).cells.toList.drop i).take 1 = [cs[i]] := by
      show (cs.toList.drop i).take 1 = _
      rw [List.drop_eq_getElem_cons (by simpa using hi2)]
      rfl
    rw [h2] at e1
    simp at e1
    rw [Array.getElem?_eq_getElem hi2, e1]
  refine ⟨fun i => match cs[i]? with | some (.int .u8 x) => BitVec.ofInt 8 x | _ => 0#8, ?_⟩
  congr 1
  apply Array.ext
  · simp; omega
  · intro i h1 h2
    obtain ⟨x, e, wx⟩ := cell i (by omega)
    rw [Array.getElem?_eq_getElem h1] at e
    simp only [List.getElem_toArray, List.getElem_map, List.getElem_range, Array.getElem?_eq_getElem h1]
    simp only [Option.some.injEq] at e
    rw [e]
    simp only
    exact congrArg _ (wf_w8 wx)
end
theorem isAs_nil (r : Rho) : IsAs r [] [] := ⟨rfl, fun j x e => by simp at e⟩
theorem isAs_cons {r : Rho} {x : SA} {v : Value} {l : List SA} {vs : List Value} (h : SA.Is r x v) (hs : IsAs r l vs) : IsAs r (x :: l) (v :: vs) :=
  ⟨by simpa using hs.1, fun j y e => by
    cases j with
    | zero => simp at e; subst e; exact ⟨v, rfl, h⟩
    | succ j => exact hs.2 j y e⟩
theorem is_row {r : Rho} {n : Nat} {f : Nat → BitVec 8} : SA.Is r (.agg [.row n fun i => .w8 (f i)]) (.agg ((List.range n).map fun i => Value.int .u8 ((f i).toNat : Int)).toArray) := by
  refine ⟨_, rfl, by simp [flat], fun j x e => ?_⟩
  simp only [flat, List.append_nil, List.getElem?_map, Option.map_eq_some_iff] at e ⊢
  obtain ⟨i, hi, rfl⟩ := e
  exact ⟨_, ⟨i, hi, rfl⟩, rfl⟩
/-- A law's walk. -/
theorem Fn.law {P : Program} {T : List (Nat × TD)} {f : FuncId} {args : List SA} {raw : World → Prop} (h : Fn P T f [] args raw (fun x hs => x = .a (.c (.bool true)) ∧ hs = [])) {w : World} {vs : List Value} (ha : IsAs [] args vs) (hr : raw w) :
    Calls P f vs.toArray w fun e w' => e = .returned (.bool true) ∧ Below w.heap.size w w' := by
  refine (Fn.calls h ha hr).mono ?_
  rintro e w' ⟨v, x, hs, r', rfl, hx, hok, rfl, rfl⟩
  obtain rfl : v = .bool true := hx
  exact ⟨rfl, hok.ext.below0⟩
end Sx
end Go.Proofs.YtkjdkeolkigibaaGreat
end

section
/-
  From a function over blocks that are only read to a law's walk: slices of bytes that came in. Over any program. No condition of its own.
-/
namespace Go.Proofs.YtkjdkeolkigibaaGreat
set_option linter.unusedVariables false
namespace Sx
open Go.RowKit Go.ChangeShapes Go.WideShapes Sha

theorem okWide_spot {P : Program} {w : World} {r : Reach} {b0 : Nat} {t e : TypeId} {a : Option Addr} {n c : Nat} (ht : P.underlying t = some (.slice e)) (h : Value.okWide P w r b0 t (.slice a n c)) : ∀ x, a = some x → x.spot = none := by
  rintro x rfl
  simp only [Value.okWide, ht, Cell.okWide, Cell.ok] at h
  exact h.2.2.2.1
/-- A slice of bytes that came in: nil (z) or not, its bytes, where they lie. -/
structure InB (w : World) (a : Option Addr) (n c : Nat) (z : Bool) (l : Bs) (B f : Nat) : Prop where
  len : l.length = n
  le : n ≤ c
  cap : c ≤ maxLen
  nil : z = true → l = []
  val : ∀ (r : Rho) (i : Nat), r[i]? = some (B, f) → SC.Is r (.sn z i 0 0 n c) (.slice a n c)
  at_ : ∀ r : Rho, At false r w B f (flat (bts z n 0 n (L l)))
theorem open_b8 {w : World} {a : Option Addr} {len cap : Nat} {zs : List Int} (h : IsRow .u8 w a len cap zs) (hs : ∀ x, a = some x → x.spot = none) : ∃ z l B f, InB w a len cap z l B f := by
  rcases h with ⟨rfl, rfl, rfl, rfl⟩ | ⟨x, rfl, hl, hm, hz, hc, hw⟩
  · exact ⟨true, [], 0, 0, rfl, Nat.le_refl _, by unfold maxLen; omega, fun _ => rfl, fun r i _ => .inl ⟨rfl, rfl, rfl, rfl⟩, fun r j y e => by simp [bts, flat] at e⟩
  · obtain ⟨B, f, spot⟩ := x
    obtain rfl : spot = none := hs _ rfl
    refine ⟨false, (zs.take len).map (BitVec.ofInt 8), B, f, by simp; omega, hl, hm, fun h => Bool.noConfusion h, fun r i hr => .inr (.inl ⟨rfl, B, f, hr, rfl⟩), fun r j y e => ?_⟩
    have hj : j < len := by
      rcases Nat.lt_or_ge j len with h | h
      · exact h
      · rw [List.getElem?_eq_none (by simpa [bts, flat] using h)] at e; cases e
    have e2 : y = .w8 (L ((zs.take len).map (BitVec.ofInt 8)) j) := by
      simp only [bts, flat, List.append_nil, List.getElem?_map, Option.map_eq_some_iff] at e
      obtain ⟨i, hi, rfl⟩ := e
      rw [List.getElem?_range (by omega)] at hi
      injection hi with hi
      subst hi
      have := winF_at 0 len (L ((zs.take len).map (BitVec.ofInt 8))) hj
      rwa [Nat.zero_add] at this
    subst e2
    have hc1 := hc j (by omega)
    have ha : (⟨B, f, none⟩ : Addr).add j = ⟨B, f + j, none⟩ := by unfold Addr.add; simp
    rw [ha] at hc1
    refine ⟨_, hc1, ?_, fun h => Bool.noConfusion h⟩
    show Value.int .u8 _ = Value.int .u8 _
    congr 1
    have hjz : j < zs.length := by omega
    have h3 : zs.getD j 0 = zs[j] := by rw [List.getD_eq_getElem?_getD, List.getElem?_eq_getElem hjz]; rfl
    have h4 : L ((zs.take len).map (BitVec.ofInt 8)) j = BitVec.ofInt 8 zs[j] := by
      rw [L_lt (by simp; omega)]
      simp
    rw [h3, h4]
    exact wf_w8 (hw _ (List.getElem_mem _))
/-- The blocks lie where r says. -/
def AllAt (R : Rho) (w : World) : List (List Seg) → Rho → Prop
  | [], [] => True
  | ch :: h, (B, f) :: r => At false R w B f (flat ch) ∧ AllAt R w h r
  | _, _ => False
theorem AllAt.len {R : Rho} {w : World} : ∀ {h : List (List Seg)} {r : Rho}, AllAt R w h r → r.length = h.length
  | [], [], _ => rfl
  | _ :: h, _ :: r, k => by rw [List.length_cons, List.length_cons, AllAt.len k.2]
  | [], _ :: _, k => k.elim
  | _ :: _, [], k => k.elim
theorem AllAt.get {R : Rho} {w : World} : ∀ {h : List (List Seg)} {r : Rho}, AllAt R w h r → ∀ (i : Nat) (ch : List Seg) (B f : Nat), h[i]? = some ch → r[i]? = some (B, f) → At false R w B f (flat ch)
  | [], [], _, i, _, _, _, e, _ => by simp at e
  | c :: h, (B', f') :: r, k, 0, _, _, _, e1, e2 => by
    simp at e1 e2
    obtain ⟨rfl, rfl⟩ := e2
    subst e1
    exact k.1
  | c :: h, (B', f') :: r, k, i + 1, _, _, _, e1, e2 => k.2.get i _ _ _ (by simpa using e1) (by simpa using e2)
theorem heapOk_ro {P : Program} {T : List (Nat × TD)} {w : World} {r0 : Rho} {h0 : List (List Seg)} (hat : AllAt r0 w h0 r0) : HeapOk (cx0 P T w r0 h0.length h0) h0 r0 w := by
  have hlen := hat.len
  have hget : ∀ i, h0[i]? = some (getH h0 i) ∨ h0[i]? = none := fun i => by
    rcases Nat.lt_or_ge i h0.length with h | h
    · exact .inl (by rw [List.getElem?_eq_getElem h]; have := getH_eq h0 i; rw [List.getElem?_eq_getElem h] at this; simpa using this.symm)
    · exact .inr (List.getElem?_eq_none h)
  have out : ∀ (i : Nat) (x : Nat × Nat), h0.length ≤ i → r0[i]? = some x → False := fun i x hi e => by
    rw [List.getElem?_eq_none (by omega)] at e; cases e
  refine ⟨Ext.refl _ _, RLe.refl _, Nat.le_of_eq hlen.symm, hlen, fun i ch B f hi hr => ?_, fun i B f ho hr => (out i _ ho hr).elim, fun i B f ho hr => (out i _ ho hr).elim, fun i B f ho hl hr => ?_, fun i ch ho hl hi => ?_, fun i j B f f' ch ch' hij o1 o2 h1 h2 r1 r2 => (out i _ o1 r1).elim⟩
  · have hil : i < h0.length := (List.getElem?_eq_some_iff.1 hi).1
    have : Nat.ble h0.length i = false := by
      cases e : Nat.ble h0.length i
      · rfl
      · have := ble_le e; omega
    show At (Nat.ble h0.length i) _ _ _ _ _
    rw [this]
    exact hat.get i ch B f hi hr
  · refine ⟨?_, ?_⟩
    · show B ∉ (r0.drop h0.length).map (·.1)
      rw [List.drop_eq_nil_of_le (by omega)]
      simp
    · rcases hget i with e | e
      · exact (hat.get i _ B f e hr).lt hl
      · rw [List.getElem?_eq_none_iff] at e
        exact (out i _ e hr).elim
  · have hl : ¬ flat (getH h0 i) ≠ [] := hl
    rcases hget i with e | e
    · rw [hi] at e
      injection e with e
      rw [e]
      exact Classical.not_not.1 hl
    · rw [hi] at e; cases e
/-- A law's walk: what came in is only read. -/
theorem FnR.law {P : Program} {T : List (Nat × TD)} {f : FuncId} {n : Nat} {h0 : List (List Seg)} {args : List SA} {raw : World → Prop} {w : World} {vs : List Value} {r0 : Rho} (h : FnR P T f n h0 args raw (fun x _ => x = .a (.c (.bool true)))) (hn : n = h0.length)
    (hat : AllAt r0 w h0 r0) (ha : IsAs r0 args vs) (hr : raw w) :
    Calls P f vs.toArray w fun e w' => e = .returned (.bool true) ∧ Below w.heap.size w w' := by
  subst hn
  refine (h w r0 vs (heapOk_ro hat) ha hr).mono ?_
  rintro e w' ⟨v, x, hs, r', rfl, hx, hok, rfl⟩
  obtain rfl : v = .bool true := hx
  refine ⟨rfl, ?_⟩
  have e : Ext ((r0.drop h0.length).map (·.1)) w w' := hok.ext
  rw [List.drop_eq_nil_of_le (by rw [hat.len]; exact Nat.le_refl _)] at e
  exact e.below0
end Sx
end Go.Proofs.YtkjdkeolkigibaaGreat
end

section
/-
  SHA-256: the law's fixed fact; marks. No condition.
-/
namespace Go.Proofs.YtkjdkeolkigibaaGreat
set_option linter.unusedVariables false
namespace Sha
theorem cat3 (a b c : Bs) : cat (ps3 a b c) 3 = a ++ b ++ c := by simp [cat, ps3]
end Sha
namespace Sx
open Sha

end Sx
end Go.Proofs.YtkjdkeolkigibaaGreat
end

section
/-
  Secrets out of secrets: the program's Expand. No condition.
-/
namespace Go.Proofs.YtkjdkeolkigibaaGreat
set_option linter.unusedVariables false
namespace Sha
/-- The k-th mark. -/
def exT (s about : Bs) : Nat → Bs
  | 0 => []
  | k + 1 => markL s (exT s about k ++ about ++ [BitVec.ofNat 8 (k + 1)])
/-- The first k marks. -/
def exL (s about : Bs) : Nat → Bs
  | 0 => []
  | k + 1 => exL s about k ++ exT s about (k + 1)
theorem exT_len (s about : Bs) (k : Nat) : (exT s about (k + 1)).length = 32 := markL_len _ _
theorem exL_len (s about : Bs) : ∀ k, (exL s about k).length = 32 * k
  | 0 => rfl
  | k + 1 => by simp only [exL, List.length_append, exL_len s about k, exT_len]; omega
def exF (s about : Bs) (i : Nat) : BitVec 8 := L (exL s about (i / 32 + 1)) i
theorem exL_up (s about : Bs) (k i : Nat) (hi : i < 32 * k) : ∀ n, L (exL s about (k + n)) i = L (exL s about k) i
  | 0 => rfl
  | n + 1 => by
    rw [← Nat.add_assoc]
    simp only [exL]
    rw [L_app1 (by rw [exL_len]; omega), exL_up s about k i hi n]
theorem exL_at (s about : Bs) (k i : Nat) (hi : i < 32 * k) : L (exL s about k) i = exF s about i := by
  unfold exF
  have := exL_up s about (i / 32 + 1) i (by omega) (k - (i / 32 + 1))
  rwa [show i / 32 + 1 + (k - (i / 32 + 1)) = k by omega] at this
end Sha
namespace Sx
open Sha

theorem eqC_n3 {q : List Nat} {a b c a' b' c' : SC} {m : Nat} (hm : m ≤ 3) (h0 : eqC q a a' True) (h1 : 1 < m → eqC q b b' True) (h2 : 2 < m → eqC q c c' True) (j : Nat) : eqC q (nthC [a, b, c] j) (partsF m (nthC [a', b', c']) j) True :=
  eqC_parts (f := nthC [a, b, c]) (fun i hi => by
    have : i = 0 ∨ i = 1 ∨ i = 2 := by omega
    rcases this with rfl | rfl | rfl
    · exact h0
    · exact h1 hi
    · exact h2 hi) j
set_option maxRecDepth 20000 in
set_option maxHeartbeats 2000000 in
theorem fn_kexpand (za : Bool) (Na oa ca : Nat) (s about : Bs) (many : Int) (dn : BitVec 32) (f g : Nat → BitVec 32) (hd : dn = 0#32 ∨ dn = 1#32 ∧ f = first ∧ g = steps)
    (hs : s.length = 32) (hNa : oa + about.length ≤ Na) (hca : about.length ≤ ca) (hza : za = true → about = []) :
    FnR Tryz.prog tds 39 1 [bts za Na oa about.length (L about), shaT dn 0 f g] [.c (.p 1 0 0), .agg [.row 32 fun i => .w8 (L s i)], .c (.sn za 0 0 oa about.length ca), .c (.int .i64 many)] (fun _ => True)
      (fun x hs => ((many < 0 ∨ 8160 < many) → x = .tup [.c (.slc none 0 0), .c (.int .i64 2)] ∧ hs = [bts za Na oa about.length (L about), shaT dn 0 f g]) ∧
        (0 ≤ many → many ≤ 8160 → ∃ (z : Bool) (N : Nat) (dn' : BitVec 32) (f' g' : Nat → BitVec 32), (dn' = 0#32 ∨ dn' = 1#32 ∧ f' = first ∧ g' = steps) ∧ (z = true → many.toNat = 0) ∧ (0 < many → z = false) ∧ many.toNat ≤ N ∧
          x = .tup [.c (.sn z 2 0 0 many.toNat many.toNat), .c (.int .i64 0)] ∧ hs = [bts za Na oa about.length (L about), shaT dn' 0 f' g', bts z N 0 many.toNat (exF s about)])) := by
  refine fn_of_body tds_ok follows_ Tryz.func39 rfl (t := [.a (.c (.p 1 0 0)), .a (.agg [.row 32 fun i => .w8 (L s i)]), .a (.c (.sn za 0 0 oa about.length ca)), .a (.c (.int .i64 (many))), .any, .any, .any, .any, .any, .any, .any, .any, .any, .any, .any, .any, .any, .any, .any, .any, .any, .any, .any, .any, .any, .any, .any, .any, .any, .any, .any, .any, .any, .any, .any, .any, .any, .any, .any, .any, .any, .any, .any, .any, .any, .any, .any]) rfl (fun w r0 hr _ => ?_)
  obtain ⟨x0, x1, rfl⟩ := len2' hr
  (repeat first | refine And.intro (by omega) ?_ | refine And.intro (by decide) ?_ | (with_reducible refine frc_parts (by first | omega | decide) ?_) | (with_reducible refine frc_bytesL (by first | omega | decide) ?_) | refine And.intro rfl ?_)
  refine ⟨fun h => Bool.noConfusion h, fun _ => ?_⟩
  by_cases h0 : many < 0
  · have e0 : decide (many < 0) = true := decide_eq_true h0
    (repeat first | refine ⟨fun _ => ?_, fun h => absurd h (by rw [e0]; decide)⟩ | refine ⟨fun h => absurd h (by rw [e0]; decide), fun _ => ?_⟩ | refine ⟨fun _ => ?_, fun h => Bool.noConfusion h⟩ | refine ⟨fun h => Bool.noConfusion h, fun _ => ?_⟩)
    refine ⟨.tup [.c (.slc none 0 0), .c (.int .i64 2)], [bts za Na oa about.length (L about), shaT dn 0 f g], ⟨[0, 1], ⟨rfl, rfl, rfl⟩, ?_⟩, fun _ => ⟨rfl, rfl⟩, fun h => absurd h0 (by omega)⟩
    (repeat first | exact trivial | refine ent1 ?_)
    refine eqC_bts ?_
    (repeat first | exact trivial | refine ent1 ?_)
  have e0 : decide (many < 0) = false := decide_eq_false h0
  by_cases h1 : 8160 < many
  · have e1 : decide (8160 < many) = true := decide_eq_true h1
    (repeat first | refine ⟨fun _ => ?_, fun h => absurd h (by rw [e0]; decide)⟩ | refine ⟨fun h => absurd h (by rw [e0]; decide), fun _ => ?_⟩ | refine ⟨fun _ => ?_, fun h => absurd h (by rw [e1]; decide)⟩ | refine ⟨fun h => absurd h (by rw [e1]; decide), fun _ => ?_⟩ | refine ⟨fun _ => ?_, fun h => Bool.noConfusion h⟩ | refine ⟨fun h => Bool.noConfusion h, fun _ => ?_⟩)
    refine ⟨.tup [.c (.slc none 0 0), .c (.int .i64 2)], [bts za Na oa about.length (L about), shaT dn 0 f g], ⟨[0, 1], ⟨rfl, rfl, rfl⟩, ?_⟩, fun _ => ⟨rfl, rfl⟩, fun _ h => absurd h1 (by omega)⟩
    (repeat first | exact trivial | refine ent1 ?_)
    refine eqC_bts ?_
    (repeat first | exact trivial | refine ent1 ?_)
  have e1 : decide (8160 < many) = false := decide_eq_false h1
  (repeat first | refine ⟨fun _ => ?_, fun h => absurd h (by rw [e0]; decide)⟩ | refine ⟨fun h => absurd h (by rw [e0]; decide), fun _ => ?_⟩ | refine ⟨fun _ => ?_, fun h => absurd h (by rw [e1]; decide)⟩ | refine ⟨fun h => absurd h (by rw [e1]; decide), fun _ => ?_⟩ | refine ⟨fun _ => ?_, fun h => Bool.noConfusion h⟩ | refine ⟨fun h => Bool.noConfusion h, fun _ => ?_⟩)
  obtain ⟨n, rfl⟩ : ∃ n : Nat, many = n := ⟨many.toNat, by omega⟩
  refine .inl ⟨Option (Nat × Nat), fun x => match x with
    | none => ⟨[.a (.c (.p 1 0 0)), .any, .a (.c (.sn za 0 0 oa about.length ca)), .a (.c (.int .i64 (↑n))), .any, .a (.c (.p 2 0 0)), .any, .any, .any, .any, .a (.c (.slc none 0 0)), .a (.c (.slc none 0 0)), .a (.c (.int .i64 (1))), .any, .any, .any, .any, .any, .any, .any, .any, .any, .any, .any, .any, .any, .any, .any, .any, .any, .any, .any, .any, .any, .any, .any, .any, .any, .any, .any, .any, .any, .any, .any, .any, .any, .any], [bts za Na oa about.length (L about), shaT dn 0 f g, [.row 32 fun i => .w8 (L s i)]]⟩
    | some (k, c) => ⟨[.a (.c (.p 1 0 0)), .any, .a (.c (.sn za 0 0 oa about.length ca)), .a (.c (.int .i64 (↑n))), .any, .a (.c (.p 2 0 0)), .any, .any, .any, .any, .a (.c (.sl 3 0 0 (32 * (k + 1)) c)), .a (.c (.sl 4 0 0 32 32)), .a (.c (.int .i64 (((k + 2 : Nat) : Int)))), .any, .any, .any, .any, .any, .any, .any, .any, .any, .any, .any, .any, .any, .any, .any, .any, .any, .any, .any, .any, .any, .any, .any, .any, .any, .any, .any, .any, .any, .any, .any, .any, .any, .any], [bts za Na oa about.length (L about), shaT 1 0 first steps, [.row 32 fun i => .w8 (L s i)], [.row c (bytesF (32 * (k + 1)) (L (exL s about (k + 1))))], [.row 32 fun i => .w8 (L (exT s about (k + 1)) i)]]⟩,
    fun x => match x with
    | none => True
    | some (k, c) => 32 * k < n ∧ 32 * (k + 1) ≤ c, fun x => match x with
    | none => 9000
    | some (k, _) => 300 - k, ⟨none, [0, 1, 2], ⟨⟨rfl, rfl, rfl⟩, ?_⟩, trivial⟩, fun x => ?_⟩
  · (repeat first | exact trivial | refine ent1 ?_)
    refine eqC_bts ?_
    (repeat first | exact trivial | refine ent1 ?_)
  rcases x with _ | ⟨k, c⟩
  · intro _
    refine ⟨fun h => ?_, fun h => ?_⟩
    · have hn : 0 < n := by have : (0 : Int) < n := of_decide_eq_true h; omega
      obtain ⟨M, hM⟩ : ∃ M, markL s ([] ++ about ++ [BitVec.ofNat 8 1]) = M := ⟨_, rfl⟩
      have hM2 : exT s about 1 = M := hM
      have hMl : M.length = 32 := by rw [← hM, markL_len]
      refine ⟨some [], [11], [(0, true), (1, true), (2, true), (3, true), (4, true), (5, true), (6, true), (7, true), (8, false), (9, false), (10, false), (11, false)], [12], by kernel_rfl, ?_⟩
      (repeat first | refine And.intro (by omega) ?_ | refine And.intro (by decide) ?_ | (with_reducible refine frc_parts (by first | omega | decide) ?_) | (with_reducible refine frc_bytesL (by first | omega | decide) ?_) | refine And.intro rfl ?_)
      refine call_same (fn_smark false true za false 32 0 Na 1 0 0 oa 0 32 0 ca 1 s [] about [BitVec.ofNat 8 1] 3 3 3 dn f g hd (by omega) (by omega) (fun h => Bool.noConfusion h) (by decide) (by decide) (fun _ => rfl) hNa hca hza (by decide) (by decide) (fun h => Bool.noConfusion h) (by decide) (by decide)) [2, 3, 0, 3, 4, 1] rfl ⟨rfl, rfl, rfl, hs.symm, rfl, rfl, rfl, rfl, trivial⟩ ?_ (fun _ _ => trivial) ?_
      · (repeat first | exact trivial | refine ent1 ?_)
        refine ⟨fun j hj => eqC_win8 (fun i hi => rfl) j, ?_⟩
        (repeat first | exact trivial | refine ent1 ?_)
        refine eqC_bts ?_
        (repeat first | exact trivial | refine ent1 ?_)
        refine ⟨fun j hj => eqC_win0 (fun i hi => ?_) j, ?_⟩
        · obtain rfl : i = 0 := by have : i < 1 := hi; omega
          rfl
        (repeat first | exact trivial | refine ent1 ?_)
        refine ⟨fun j hj => eqC_n3 (by decide) (by exact ⟨rfl, rfl, rfl, rfl, rfl, trivial⟩) (by exact fun _ => ⟨rfl, rfl, rfl, rfl, trivial⟩) (by exact fun _ => ⟨rfl, rfl, rfl, rfl, trivial⟩) j, ?_⟩
        (repeat first | exact trivial | refine ent1 ?_)
      rintro x hs' ⟨rfl, rfl⟩
      rw [cat3, hM]
      (repeat first | refine And.intro (by omega) ?_ | refine And.intro (by decide) ?_ | (with_reducible refine frc_parts (by first | omega | decide) ?_) | (with_reducible refine frc_bytesL (by first | omega | decide) ?_) | refine And.intro rfl ?_)
      refine ⟨fun h => absurd h (by decide), fun _ c' hc' => ?_⟩
      refine ⟨⟨by omega, by omega⟩, some (0, c'), [0, 1, 2, 6, 5], ⟨⟨rfl, rfl, rfl⟩, ?_⟩, ⟨by omega, by omega⟩, by first | omega | (dsimp only; omega)⟩
      (repeat first | exact trivial | refine ent1 ?_)
      refine eqC_bts ?_
      (repeat first | exact trivial | refine ent1 ?_)
      refine ⟨fun j hj => eqC_bytes (fun i hi => ?_) j, rfl, fun j hj => ?_, trivial⟩
      · unfold newF
        rw [if_pos (by simpa [scale] using hi)]
        have hE : exL s about 1 = M := by rw [← hM2]; rfl
        show _ = SC.w8 (L (exL s about 1) i)
        rw [hE]
        rfl
      · show eqC _ _ (SC.w8 (L (exT s about 1) j)) True
        rw [hM2]
        exact ⟨rfl, trivial⟩
    · obtain rfl : n = 0 := by have : ¬ (0 : Int) < n := of_decide_eq_false h; omega
      (repeat first | refine And.intro (by omega) ?_ | refine And.intro (by decide) ?_ | (with_reducible refine frc_parts (by first | omega | decide) ?_) | (with_reducible refine frc_bytesL (by first | omega | decide) ?_) | refine And.intro rfl ?_)
      refine ⟨.tup [.c (.sn true 2 0 0 0 0), .c (.int .i64 0)], [bts za Na oa about.length (L about), shaT dn 0 f g, []], ⟨[0, 1, 2], ⟨rfl, rfl, rfl⟩, ?_⟩, fun h => absurd h (by omega), fun _ _ => ⟨true, 0, dn, f, g, hd, fun _ => rfl, fun h => absurd h (by omega), Nat.le_refl _, rfl, rfl⟩⟩
      (repeat first | exact trivial | refine ent1 ?_)
      refine eqC_bts ?_
      (repeat first | exact trivial | refine ent1 ?_)
  · rintro ⟨hk, hc⟩
    refine ⟨fun h => ?_, fun h => ?_⟩
    · have hn : 32 * (k + 1) < n := by have : ((32 * (k + 1) : Nat) : Int) < n := of_decide_eq_true h; omega
      obtain ⟨T, hT⟩ : ∃ T, exT s about (k + 1) = T := ⟨_, rfl⟩
      have hTl : T.length = 32 := by rw [← hT, exT_len]
      obtain ⟨M, hM⟩ : ∃ M, markL s (T ++ about ++ [BitVec.ofNat 8 (k + 2)]) = M := ⟨_, rfl⟩
      have hM2 : exT s about (k + 2) = M := by rw [← hM, ← hT]; rfl
      rw [hT]
      have hMl : M.length = 32 := by rw [← hM, markL_len]
      refine ⟨some [], [11], [(0, true), (1, true), (2, true), (3, true), (4, true), (5, true), (6, true), (7, true), (8, false), (9, false), (10, false), (11, false)], [12], by kernel_rfl, ?_⟩
      (repeat first | refine And.intro (by omega) ?_ | refine And.intro (by decide) ?_ | (with_reducible refine frc_parts (by first | omega | decide) ?_) | (with_reducible refine frc_bytesL (by first | omega | decide) ?_) | refine And.intro rfl ?_)
      refine call_same (fn_smark false false za false 32 32 Na 1 0 0 oa 0 32 32 ca 1 s T about [BitVec.ofNat 8 (k + 2)] 3 3 3 1 first steps (.inr ⟨rfl, rfl, rfl⟩) (by omega) (by omega) (fun h => Bool.noConfusion h) (by omega) (by omega) (fun h => Bool.noConfusion h) hNa hca hza (Nat.le_refl 1) (Nat.le_refl 1) (fun h => Bool.noConfusion h) (by decide) (by decide)) [2, 4, 0, 5, 6, 1] rfl ⟨rfl, rfl, rfl, hs.symm, rfl, rfl, rfl, rfl, trivial⟩ ?_ (fun _ _ => trivial) ?_
      · (repeat first | exact trivial | refine ent1 ?_)
        refine ⟨fun j hj => eqC_win8 (fun i hi => rfl) j, ?_⟩
        (repeat first | exact trivial | refine ent1 ?_)
        refine ⟨fun j hj => eqC_win8 (fun i hi => rfl) j, ?_⟩
        (repeat first | exact trivial | refine ent1 ?_)
        refine eqC_bts ?_
        (repeat first | exact trivial | refine ent1 ?_)
        refine ⟨fun j hj => eqC_win0 (fun i hi => ?_) j, ?_⟩
        · obtain rfl : i = 0 := by have : i < 1 := hi; omega
          exact congrArg SC.w8 (BitVec.ofInt_natCast 8 (k + 2))
        (repeat first | exact trivial | refine ent1 ?_)
        refine ⟨fun j hj => eqC_n3 (by decide) (by exact ⟨rfl, rfl, hTl.symm, rfl, trivial⟩) (by exact fun _ => ⟨rfl, rfl, rfl, rfl, trivial⟩) (by exact fun _ => ⟨rfl, rfl, rfl, rfl, trivial⟩) j, ?_⟩
        (repeat first | exact trivial | refine ent1 ?_)
      rintro x hs' ⟨rfl, rfl⟩
      rw [cat3, hM]
      (repeat first | refine And.intro (by omega) ?_ | refine And.intro (by decide) ?_ | (with_reducible refine frc_parts (by first | omega | decide) ?_) | (with_reducible refine frc_bytesL (by first | omega | decide) ?_) | refine And.intro rfl ?_)
      refine ⟨⟨by omega, by simp only [scale]; omega, by show (32 * (k + 1) + 32) * 1 ≤ 140737488355328; omega⟩, fun c' hc' => ?_⟩
      refine ⟨⟨by omega, by omega⟩, some (k + 1, c'), [0, 1, 2, 8, 7], ⟨⟨rfl, rfl, rfl⟩, ?_⟩, ⟨by omega, by omega⟩, by first | omega | (dsimp only; omega)⟩
      (repeat first | exact trivial | refine ent1 ?_)
      refine eqC_bts ?_
      (repeat first | exact trivial | refine ent1 ?_)
      refine ⟨fun j hj => eqC_bytes (fun i hi => ?_) j, rfl, fun j hj => ?_, trivial⟩
      · unfold appF
        have hE : exL s about (k + 2) = exL s about (k + 1) ++ M := by rw [← hM2]; rfl
        show _ = SC.w8 (L (exL s about (k + 2)) i)
        rw [hE, L_app, exL_len]
        by_cases h2 : i < 32 * (k + 1)
        · rw [if_pos (by simpa [scale] using h2), if_pos h2]
          exact bytesF_lt h2
        · rw [if_neg (by simpa [scale] using h2), if_pos (by simp only [scale]; omega), if_neg h2]
          rfl
      · show eqC _ _ (SC.w8 (L (exT s about (k + 2)) j)) True
        rw [hM2]
        exact ⟨rfl, trivial⟩
    · have hn : n ≤ 32 * (k + 1) := by have : ¬ ((32 * (k + 1) : Nat) : Int) < n := of_decide_eq_false h; omega
      (repeat first | refine And.intro (by omega) ?_ | refine And.intro (by decide) ?_ | (with_reducible refine frc_parts (by first | omega | decide) ?_) | (with_reducible refine frc_bytesL (by first | omega | decide) ?_) | refine And.intro rfl ?_)
      refine ⟨.tup [.c (.sn false 2 0 0 n n), .c (.int .i64 0)], [bts za Na oa about.length (L about), shaT 1 0 first steps, bts false c 0 n (exF s about)], ⟨[0, 1, 3], ⟨rfl, rfl, rfl⟩, ?_⟩, fun h => absurd h (by omega), fun _ _ => ⟨false, c, 1, first, steps, .inr ⟨rfl, rfl, rfl⟩, fun h => Bool.noConfusion h, fun _ => rfl, by omega, rfl, rfl⟩⟩
      refine ⟨rfl, ?_, rfl, rfl, rfl, ?_⟩
      · split <;> rfl
      refine eqC_bts ?_
      (repeat first | exact trivial | refine ent1 ?_)
      exact ⟨fun j hj => eqC_win0 (fun i hi => by rw [bytesF_lt (by omega), exL_at _ _ _ _ (by omega)]) j, trivial⟩
end Sx
end Go.Proofs.YtkjdkeolkigibaaGreat
end

section
/-
  Secrets out of secrets: the document's Expand. No condition.
-/
namespace Go.Proofs.YtkjdkeolkigibaaGreat
set_option linter.unusedVariables false
namespace Sx
open Sha

end Sx
end Go.Proofs.YtkjdkeolkigibaaGreat
end

section
/-
  Secrets out of secrets: labels. No condition.
-/
namespace Go.Proofs.YtkjdkeolkigibaaGreat
set_option linter.unusedVariables false
namespace Sha
def tls : Bs := [116#8, 108#8, 115#8, 49#8, 51#8, 32#8]
/-- What a label is made of. -/
def labT (lab : List UInt8) (ctx : Bs) (n : Nat) : Bs := [BitVec.ofNat 8 (n / 256), BitVec.ofNat 8 n, BitVec.ofNat 8 (6 + lab.length)] ++ tls ++ BS lab ++ [BitVec.ofNat 8 ctx.length] ++ ctx
theorem labT_len (lab : List UInt8) (ctx : Bs) (n : Nat) : (labT lab ctx n).length = 3 + 6 + lab.length + 1 + ctx.length := by simp [labT, tls]; omega
end Sha
namespace Sx
open Sha

theorem tls_row (i : Nat) (hi : i < 6) : SC.w8 (List.getD [116, 108, 115, 49, 51, 32] i (0 : UInt8)).toBitVec = .w8 (L tls i) := by
  have : i = 0 ∨ i = 1 ∨ i = 2 ∨ i = 3 ∨ i = 4 ∨ i = 5 := by omega
  rcases this with rfl | rfl | rfl | rfl | rfl | rfl <;> rfl
theorem three {x y z x' y' z' : BitVec 8} (hx : x = x') (hy : y = y') (hz : z = z') (i : Nat) (hi : i < 3) : nthC [.w8 x, .w8 y, .w8 z] i = .w8 (L [x', y', z'] i) := by
  subst hx; subst hy; subst hz
  have : i = 0 ∨ i = 1 ∨ i = 2 := by omega
  rcases this with rfl | rfl | rfl <;> rfl
set_option maxRecDepth 20000 in
set_option maxHeartbeats 2000000 in
theorem fn_klabel (zc : Bool) (Nc oc cc : Nat) (s ctx : Bs) (lab : List UInt8) (many : Int) (dn : BitVec 32) (f g : Nat → BitVec 32) (hd : dn = 0#32 ∨ dn = 1#32 ∧ f = first ∧ g = steps)
    (hs : s.length = 32) (hNc : oc + ctx.length ≤ Nc) (hcc : ctx.length ≤ cc) (hzc : zc = true → ctx = []) :
    FnR Tryz.prog tds 22 1 [bts zc Nc oc ctx.length (L ctx), shaT dn 0 f g] [.c (.p 1 0 0), .agg [.row 32 fun i => .w8 (L s i)], .c (.str lab), .c (.sn zc 0 0 oc ctx.length cc), .c (.int .i64 many)] (fun _ => True)
      (fun x hs => ((249 < lab.length ∨ 255 < ctx.length) → x = .tup [.c (.slc none 0 0), .c (.int .i64 6)] ∧ hs = [bts zc Nc oc ctx.length (L ctx), shaT dn 0 f g]) ∧
        (lab.length ≤ 249 → ctx.length ≤ 255 → (many < 0 ∨ 8160 < many) → x = .tup [.c (.slc none 0 0), .c (.int .i64 2)] ∧ hs = [bts zc Nc oc ctx.length (L ctx), shaT dn 0 f g]) ∧
        (lab.length ≤ 249 → ctx.length ≤ 255 → 0 ≤ many → many ≤ 8160 → ∃ (z : Bool) (N : Nat) (dn' : BitVec 32) (f' g' : Nat → BitVec 32), (dn' = 0#32 ∨ dn' = 1#32 ∧ f' = first ∧ g' = steps) ∧ (z = true → many.toNat = 0) ∧ (0 < many → z = false) ∧ many.toNat ≤ N ∧
          x = .tup [.c (.sn z 2 0 0 many.toNat many.toNat), .c (.int .i64 0)] ∧ hs = [bts zc Nc oc ctx.length (L ctx), shaT dn' 0 f' g', bts z N 0 many.toNat (exF s (labT lab ctx many.toNat))])) := by
  refine fn_of_body tds_ok follows_ Tryz.func22 rfl (t := [.a (.c (.p 1 0 0)), .a (.agg [.row 32 fun i => .w8 (L s i)]), .a (.c (.str (lab))), .a (.c (.sn zc 0 0 oc ctx.length cc)), .a (.c (.int .i64 (many))), .any, .any, .any, .any, .any, .any, .any, .any, .any, .any, .any, .any, .any, .any, .any, .any, .any, .any, .any, .any, .any, .any, .any, .any, .any, .any, .any, .any, .any, .any, .any, .any, .any, .any, .any, .any, .any, .any, .any, .any, .any, .any, .any, .any, .any, .any, .any, .any, .any, .any, .any, .any, .any, .any, .any]) rfl (fun w r0 hr _ => ?_)
  obtain ⟨x0, x1, rfl⟩ := len2' hr
  (repeat first | refine And.intro (by omega) ?_ | refine And.intro (by decide) ?_ | (with_reducible refine frc_parts (by first | omega | decide) ?_) | (with_reducible refine frc_bytesL (by first | omega | decide) ?_) | refine And.intro rfl ?_)
  refine ⟨fun h => Bool.noConfusion h, fun _ => ?_⟩
  by_cases h0 : 249 < lab.length
  · have e0 : decide ((249 : Int) < (lab.length : Int)) = true := decide_eq_true (by omega)
    (repeat first | refine ⟨fun _ => ?_, fun h => absurd h (by rw [e0]; decide)⟩ | refine ⟨fun h => absurd h (by rw [e0]; decide), fun _ => ?_⟩ | refine ⟨fun _ => ?_, fun h => Bool.noConfusion h⟩ | refine ⟨fun h => Bool.noConfusion h, fun _ => ?_⟩)
    refine ⟨.tup [.c (.slc none 0 0), .c (.int .i64 6)], [bts zc Nc oc ctx.length (L ctx), shaT dn 0 f g], ⟨[0, 1], ⟨rfl, rfl, rfl⟩, ?_⟩, fun _ => ⟨rfl, rfl⟩, fun h => absurd h (by omega), fun h => absurd h (by omega)⟩
    (repeat first | exact trivial | refine ent1 ?_)
    refine eqC_bts ?_
    (repeat first | exact trivial | refine ent1 ?_)
  have e0 : decide ((249 : Int) < (lab.length : Int)) = false := decide_eq_false (by omega)
  by_cases h1 : 255 < ctx.length
  · have e1 : decide ((255 : Int) < (ctx.length : Int)) = true := decide_eq_true (by omega)
    (repeat first | refine ⟨fun _ => ?_, fun h => absurd h (by rw [e0]; decide)⟩ | refine ⟨fun h => absurd h (by rw [e0]; decide), fun _ => ?_⟩ | refine ⟨fun _ => ?_, fun h => absurd h (by rw [e1]; decide)⟩ | refine ⟨fun h => absurd h (by rw [e1]; decide), fun _ => ?_⟩ | refine ⟨fun _ => ?_, fun h => Bool.noConfusion h⟩ | refine ⟨fun h => Bool.noConfusion h, fun _ => ?_⟩)
    refine ⟨.tup [.c (.slc none 0 0), .c (.int .i64 6)], [bts zc Nc oc ctx.length (L ctx), shaT dn 0 f g], ⟨[0, 1], ⟨rfl, rfl, rfl⟩, ?_⟩, fun _ => ⟨rfl, rfl⟩, fun _ h => absurd h (by omega), fun _ h => absurd h (by omega)⟩
    (repeat first | exact trivial | refine ent1 ?_)
    refine eqC_bts ?_
    (repeat first | exact trivial | refine ent1 ?_)
  have e1 : decide ((255 : Int) < (ctx.length : Int)) = false := decide_eq_false (by omega)
  (repeat first | refine ⟨fun _ => ?_, fun h => absurd h (by rw [e0]; decide)⟩ | refine ⟨fun h => absurd h (by rw [e0]; decide), fun _ => ?_⟩ | refine ⟨fun _ => ?_, fun h => absurd h (by rw [e1]; decide)⟩ | refine ⟨fun h => absurd h (by rw [e1]; decide), fun _ => ?_⟩ | refine ⟨fun _ => ?_, fun h => Bool.noConfusion h⟩ | refine ⟨fun h => Bool.noConfusion h, fun _ => ?_⟩)
  by_cases h2 : many < 0
  · have e2 : decide (many < 0) = true := decide_eq_true h2
    (repeat first | refine ⟨fun _ => ?_, fun h => absurd h (by rw [e2]; decide)⟩ | refine ⟨fun h => absurd h (by rw [e2]; decide), fun _ => ?_⟩ | refine ⟨fun _ => ?_, fun h => Bool.noConfusion h⟩ | refine ⟨fun h => Bool.noConfusion h, fun _ => ?_⟩)
    refine ⟨.tup [.c (.slc none 0 0), .c (.int .i64 2)], [bts zc Nc oc ctx.length (L ctx), shaT dn 0 f g], ⟨[0, 1], ⟨rfl, rfl, rfl⟩, ?_⟩, fun h => absurd h (by omega), fun _ _ _ => ⟨rfl, rfl⟩, fun _ _ h => absurd h (by omega)⟩
    (repeat first | exact trivial | refine ent1 ?_)
    refine eqC_bts ?_
    (repeat first | exact trivial | refine ent1 ?_)
  have e2 : decide (many < 0) = false := decide_eq_false h2
  by_cases h3 : 65535 < many
  · have e3 : decide (65535 < many) = true := decide_eq_true h3
    (repeat first | refine ⟨fun _ => ?_, fun h => absurd h (by rw [e2]; decide)⟩ | refine ⟨fun h => absurd h (by rw [e2]; decide), fun _ => ?_⟩ | refine ⟨fun _ => ?_, fun h => absurd h (by rw [e3]; decide)⟩ | refine ⟨fun h => absurd h (by rw [e3]; decide), fun _ => ?_⟩ | refine ⟨fun _ => ?_, fun h => Bool.noConfusion h⟩ | refine ⟨fun h => Bool.noConfusion h, fun _ => ?_⟩)
    refine ⟨.tup [.c (.slc none 0 0), .c (.int .i64 2)], [bts zc Nc oc ctx.length (L ctx), shaT dn 0 f g], ⟨[0, 1], ⟨rfl, rfl, rfl⟩, ?_⟩, fun h => absurd h (by omega), fun _ _ _ => ⟨rfl, rfl⟩, fun _ _ _ h => absurd h (by omega)⟩
    (repeat first | exact trivial | refine ent1 ?_)
    refine eqC_bts ?_
    (repeat first | exact trivial | refine ent1 ?_)
  have e3 : decide (65535 < many) = false := decide_eq_false h3
  (repeat first | refine ⟨fun _ => ?_, fun h => absurd h (by rw [e2]; decide)⟩ | refine ⟨fun h => absurd h (by rw [e2]; decide), fun _ => ?_⟩ | refine ⟨fun _ => ?_, fun h => absurd h (by rw [e3]; decide)⟩ | refine ⟨fun h => absurd h (by rw [e3]; decide), fun _ => ?_⟩ | refine ⟨fun _ => ?_, fun h => Bool.noConfusion h⟩ | refine ⟨fun h => Bool.noConfusion h, fun _ => ?_⟩)
  obtain ⟨n, rfl⟩ : ∃ n : Nat, many = n := ⟨many.toNat, by omega⟩
  (repeat first | refine And.intro (by omega) ?_ | refine And.intro (by decide) ?_ | (with_reducible refine frc_parts (by first | omega | decide) ?_) | (with_reducible refine frc_bytesL (by first | omega | decide) ?_) | refine And.intro rfl ?_)
  refine fun c1 hc1 => ?_
  have r1 := app_row (l := [BitVec.ofNat 8 (n / 256), BitVec.ofNat 8 n, BitVec.ofNat 8 (6 + lab.length)]) (m := tls) (n := 3) (k := 6) rfl rfl (f := nthC [.w8 (BitVec.ofInt 8 ((n : Int) / 2 ^ 8)), .w8 (BitVec.ofInt 8 (n : Int)), .w8 (BitVec.ofInt 8 (6 + (lab.length : Int)))]) (fun i hi => three (by rw [show (n : Int) / 2 ^ 8 = ((n / 256 : Nat) : Int) by omega]; exact BitVec.ofInt_natCast 8 _) (BitVec.ofInt_natCast 8 n) (by rw [show 6 + (lab.length : Int) = ((6 + lab.length : Nat) : Int) by omega]; exact BitVec.ofInt_natCast 8 _) i hi) (g := fun q => .w8 (List.getD [116, 108, 115, 49, 51, 32] q (0 : UInt8)).toBitVec) (fun i hi => tls_row i hi)
  refine And.intro ⟨by omega, by simp only [scale]; omega, by show (3 + 6 + lab.length) * 1 ≤ 140737488355328; omega⟩ fun c2 hc2 => ?_
  have r2 := app_row (m := BS lab) (n := 3 + 6) (k := lab.length) rfl (BS_len lab) r1 (g := fun q => .w8 (lab.getD q 0).toBitVec) (fun i hi => BS_row lab i hi)
  (repeat first | refine And.intro (by omega) ?_ | refine And.intro (by decide) ?_ | (with_reducible refine frc_parts (by first | omega | decide) ?_) | (with_reducible refine frc_bytesL (by first | omega | decide) ?_) | refine And.intro rfl ?_)
  refine And.intro ⟨by omega, by simp only [scale]; omega, by show (3 + 6 + lab.length + 1) * 1 ≤ 140737488355328; omega⟩ fun c3 hc3 => ?_
  have r3 := app_row (m := [BitVec.ofNat 8 ctx.length]) (n := 3 + 6 + lab.length) (k := 1) (by simp [tls]; try omega) rfl r2 (one_row (x := BitVec.ofInt 8 (ctx.length : Int)) (BitVec.ofInt_natCast 8 ctx.length))
  refine sn_bts (N := Nc) (b := L ctx) ?_ hNc (fun h => by rw [hzc h]; rfl) (fun gx hg => ?_)
  · rfl
  refine And.intro ⟨by omega, by simp only [scale]; omega, by show (3 + 6 + lab.length + 1 + ctx.length) * 1 ≤ 140737488355328; omega⟩ fun c4 hc4 => ?_
  have r4 := app_row (n := 3 + 6 + lab.length + 1) (by simp [tls]; try omega) rfl r3 hg
  have hTl := labT_len lab ctx n
  obtain ⟨T, hT0⟩ : ∃ T, labT lab ctx n = T := ⟨_, rfl⟩
  rw [hT0] at hTl
  have hT : [BitVec.ofNat 8 (n / 256), BitVec.ofNat 8 n, BitVec.ofNat 8 (6 + lab.length)] ++ tls ++ BS lab ++ [BitVec.ofNat 8 ctx.length] ++ ctx = T := hT0
  rw [hT] at r4
  have hc4' : T.length ≤ c4 := by rw [hTl]; exact hc4
  (repeat first | refine And.intro (by omega) ?_ | refine And.intro (by decide) ?_ | (with_reducible refine frc_parts (by first | omega | decide) ?_) | (with_reducible refine frc_bytesL (by first | omega | decide) ?_) | refine And.intro rfl ?_)
  refine call_same (fn_kexpand false c4 0 c4 s T (n : Int) dn f g hd hs (by omega) (by omega) (fun h => Bool.noConfusion h)) [8, 1] rfl ⟨rfl, rfl, rfl, fun j hj => ⟨rfl, trivial⟩, rfl, rfl, hTl.symm, rfl, rfl, trivial⟩ ?_ (fun _ _ => trivial) ?_
  · refine ⟨rfl, fun j hj => eqC_win0 (fun i hi => r4 i (by omega)) j, ?_⟩
    (repeat first | exact trivial | refine ent1 ?_)
  rintro x hs' ⟨hbad, hgood⟩
  by_cases h4 : 8160 < (n : Int)
  · obtain ⟨rfl, rfl⟩ := hbad (.inr h4)
    (repeat first | refine And.intro (by omega) ?_ | refine And.intro (by decide) ?_ | (with_reducible refine frc_parts (by first | omega | decide) ?_) | (with_reducible refine frc_bytesL (by first | omega | decide) ?_) | refine And.intro rfl ?_)
    refine ⟨.tup [.c (.slc none 0 0), .c (.int .i64 2)], [bts zc Nc oc ctx.length (L ctx), shaT dn 0 f g], ⟨[0, 1], ⟨rfl, rfl, rfl⟩, ?_⟩, fun h => absurd h (by omega), fun _ _ _ => ⟨rfl, rfl⟩, fun _ _ _ h => absurd h (by omega)⟩
    (repeat first | exact trivial | refine ent1 ?_)
    refine eqC_bts ?_
    (repeat first | exact trivial | refine ent1 ?_)
  obtain ⟨z, N, dn', f', g', hd', hz, hz2, hN, rfl, rfl⟩ := hgood (by omega) (by omega)
  (repeat first | refine And.intro (by omega) ?_ | refine And.intro (by decide) ?_ | (with_reducible refine frc_parts (by first | omega | decide) ?_) | (with_reducible refine frc_bytesL (by first | omega | decide) ?_) | refine And.intro rfl ?_)
  refine ⟨.tup [.c (.sn z 2 0 0 n n), .c (.int .i64 0)], [bts zc Nc oc ctx.length (L ctx), shaT dn' 0 f' g', bts z N 0 n (exF s T)], ⟨[0, 1, 9], ⟨rfl, rfl, rfl⟩, ?_⟩, fun h => absurd h (by omega), fun _ _ h => absurd h (by omega), fun _ _ _ _ => ⟨z, N, dn', f', g', hd', hz, hz2, hN, rfl, by subst hT0; rfl⟩⟩
  (repeat first | exact trivial | refine ent1 ?_)
  refine eqC_bts ?_
  (repeat first | exact trivial | refine ent1 ?_)
  exact eqC_btsM trivial
end Sx
end Go.Proofs.YtkjdkeolkigibaaGreat
end

section
/-
  Secrets out of secrets: Extract, Derive; the law's fixed fact. No condition.
-/
namespace Go.Proofs.YtkjdkeolkigibaaGreat
set_option linter.unusedVariables false
namespace Sx
open Sha

theorem fn_knew : Fn Tryz.prog tds 18 [] [] (fun _ => True) (fun x hs => x = .a (.c (.p 0 0 0)) ∧ hs = [shaT 0 0 (fun _ => 0#32) (fun _ => 0#32)]) := by
  refine fn_of_body tds_ok follows_ Tryz.func18 rfl (t := anys 2) rfl (fun w r0 hr _ => ?_)
  obtain rfl : r0 = [] := List.eq_nil_of_length_eq_zero hr
  refine ⟨.a (.c (.p 0 0 0)), [shaT 0 0 (fun _ => 0#32) (fun _ => 0#32)], ⟨[0], ⟨rfl, rfl, rfl⟩, ?_⟩, rfl, rfl⟩
  (repeat first | exact trivial | refine ⟨rfl, ?_⟩ | refine ⟨fun _ _ => ⟨rfl, trivial⟩, ?_⟩ | refine ⟨by omega, ?_⟩)
end Sx
end Go.Proofs.YtkjdkeolkigibaaGreat
end

section
/-
  The document's columns, mixed; a key's words. No condition.
-/
namespace Go.Proofs.YtkjdkeolkigibaaGreat
set_option linter.unusedVariables false
namespace Sx
open Aes

end Sx
end Go.Proofs.YtkjdkeolkigibaaGreat
end
