/-
  sync.Once's Do as a function over blocks; counters. No condition.
-/
import Derived.Test.YtndlhhhebijknaaSxq
import Derived.Test.YtndlhhhebijknaaTds
import Derived.Test.YtndlhhhebijknaaOnce2
namespace Go.Proofs.Ytndlhhhebijknaa
set_option linter.unusedVariables false
namespace Sx
open Go.RowKit

section
variable {C : Cx} {r : Rho} {w : World} {B f : Nat}
theorem put_first {x y : SC} {l : List Seg} {v : Value} (ok : HeapOk C [.one x :: l] r w) (hr : r[0]? = some (B, f)) (hv : y.Is r v) (h0 : C.ro = 0) : HeapOk C [.one y :: l] r (w.setCell ⟨B, f, none⟩ v) := by
  obtain ⟨l', e, hp⟩ := putS_spec (new := [.one y]) (l := .one x :: l) (b := 0) (o := 0) (k := fun l' => l' = .one y :: l) rfl
  subst e
  exact ok.put hr (i := 0) rfl (by simp) hp (vs := [v]) ⟨rfl, fun j z e => by
    cases j with
    | zero => simp [flat] at e; subst e; exact ⟨v, rfl, hv⟩
    | succ j => simp [flat] at e⟩ (by omega)
theorem put_second {x y z : SC} {l : List Seg} {v : Value} (ok : HeapOk C [.one z :: .one x :: l] r w) (hr : r[0]? = some (B, f)) (hv : y.Is r v) (h0 : C.ro = 0) : HeapOk C [.one z :: .one y :: l] r (w.setCell ⟨B, f + 1, none⟩ v) := by
  obtain ⟨l', e, hp⟩ := putS_spec (new := [.one y]) (l := .one z :: .one x :: l) (b := 1) (o := 0) (k := fun l' => l' = .one z :: .one y :: l) rfl
  subst e
  exact ok.put hr (i := 0) rfl (by simp) hp (vs := [v]) ⟨rfl, fun j z e => by
    cases j with
    | zero => simp [flat] at e; subst e; exact ⟨v, rfl, hv⟩
    | succ j => simp [flat] at e⟩ (by omega)
end
/-- From another world on. -/
theorem HeapOk.rebase {P : Program} {T : List (Nat × TD)} {w w1 : World} {h h0 h1 : List (List Seg)} {r : Rho} (ok : HeapOk (cx0 P T w r 0 h0) h r w1) : HeapOk (cx0 P T w1 r 0 h1) h r w1 :=
  ⟨Ext.refl _ _, RLe.refl _, Nat.zero_le _, ok.len, ok.chunks, ok.lt, fun i B f ho h => .inl (mem_drop.2 ⟨i, f, ho, h⟩), fun i B f ho => absurd ho (Nat.not_lt_zero i), fun i ch ho => absurd ho (Nat.not_lt_zero i), ok.apart⟩
theorem HeapOk.onto {P : Program} {T : List (Nat × TD)} {w w1 w2 : World} {h h0 h1 : List (List Seg)} {r : Rho} (e : Ext (r.map (·.1)) w w1) (ok : HeapOk (cx0 P T w1 r 0 h1) h r w2) : HeapOk (cx0 P T w r 0 h0) h r w2 :=
  ⟨e.trans ok.ext, ok.agree, Nat.zero_le _, ok.len, ok.chunks, ok.lt, fun i B f ho h => .inl (mem_drop.2 ⟨i, f, ho, h⟩), fun i B f ho => absurd ho (Nat.not_lt_zero i), fun i ch ho => absurd ho (Nat.not_lt_zero i), ok.apart⟩
theorem is_at {C : Cx} {h : List (List Seg)} {r : Rho} {w : World} {B f : Nat} {l : List Seg} {x : SC} {j : Nat} (ok : HeapOk C h r w) (hr : r[0]? = some (B, f)) (hh : h[0]? = some l) (hx : (flat l)[j]? = some x) (h0 : C.ro = 0) :
    ∃ v, w.cell? ⟨B, f + j, none⟩ = some v ∧ x.Is r v ∧ w.frozen? ⟨B, f + j, none⟩ = false := by
  obtain ⟨v, e1, e2, e3⟩ := ok.chunks 0 l B f hh hr j x hx
  exact ⟨v, e1, e2, (e3 (by rw [h0]; rfl)).fr e1⟩
theorem len2' {α : Type} : ∀ {l : List α}, l.length = 2 → ∃ a b, l = [a, b]
  | [a, b], _ => ⟨a, b, rfl⟩
theorem fn_once {g : FuncId} (hgb : ((Try.prog.funcs[g]?).any fun fn => fn.body.isSome && fn.name != "runtime.NumGoroutine") = true) {rest rest' : List Seg}
    (hF : Go.Proofs.Ytndlhhhebijknaa.Sx.Fn Try.prog tds g [.one (.w32 0) :: .one (.int .i32 1) :: rest] [.c (.p 0 0 0)] (fun _ => True) (fun x hs => x = .tup [] ∧ hs = [.one (.w32 0) :: .one (.int .i32 1) :: rest'])) :
    Go.Proofs.Ytndlhhhebijknaa.Sx.Fn Try.prog tds 63 [.one (.w32 0) :: .one (.int .i32 0) :: rest] [.c (.p 0 0 0), .c (.clo g 0 0 0)] (fun _ => True) (fun x hs => x = .tup [] ∧ hs = [.one (.w32 1) :: .one (.int .i32 0) :: rest']) := by
  intro w r0 vs ok ha _
  obtain ⟨⟨B, f⟩, rfl⟩ := List.length_eq_one_iff.1 ok.len
  obtain ⟨hl, ha⟩ := ha
  obtain ⟨v0, v1, rfl⟩ := len2' hl.symm
  obtain ⟨u, hu, B0, f0, hr0, rfl⟩ := ha 0 _ rfl
  obtain ⟨u, hu1, B1, f1, hr1, rfl⟩ := ha 1 _ rfl
  simp at hu hu1 hr0 hr1
  obtain ⟨rfl, rfl⟩ := hr0
  obtain ⟨rfl, rfl⟩ := hr1
  subst hu
  subst hu1
  obtain ⟨_, c0, rfl, z0⟩ := is_at ok rfl rfl (j := 0) (x := .w32 0) rfl rfl
  obtain ⟨_, c1, rfl, z1⟩ := is_at ok rfl rfl (j := 1) (x := .int .i32 0) rfl rfl
  have ok1 := put_second (y := .int .i32 1) ok rfl (v := .int .i32 1) rfl rfl
  have hg := hF (w.setCell ⟨B, f + 1, none⟩ (.int .i32 1)) [(B, f)] [.pointer (some ⟨B, f, none⟩)] ok1.rebase ⟨rfl, fun j x e => by
    cases j with
    | zero => simp at e; subst e; exact ⟨_, rfl, B, f, rfl, rfl⟩
    | succ j => simp at e⟩ trivial
  let R : World → Prop := fun w2 => HeapOk (cx0 Try.prog tds (w.setCell ⟨B, f + 1, none⟩ (.int .i32 1)) [(B, f)] 0 [.one (.w32 0) :: .one (.int .i32 1) :: rest]) [.one (.w32 0) :: .one (.int .i32 1) :: rest'] [(B, f)] w2
  have hg2 : Calls Try.prog g #[.pointer (some ⟨B, f, none⟩)] (w.setCell ⟨B, f + 1, none⟩ (.int .i32 1)) fun e w2 => e = .returned (.tuple #[]) ∧ R w2 := by
    refine hg.mono ?_
    rintro e w2 ⟨v, x, hs, r', rfl, hx, hok, rfl, rfl⟩
    obtain ⟨vs, rfl, hl, _⟩ := hx
    obtain rfl : vs = [] := List.eq_nil_of_length_eq_zero hl.symm
    obtain ⟨y, rfl⟩ := List.length_eq_one_iff.1 hok.len
    have := hok.agree 0 (B, f) rfl
    simp at this
    subst this
    exact ⟨rfl, hok⟩
  have hR : ∀ w2, R w2 → w2.cell? ⟨B, f, none⟩ = some (.int .u32 0) ∧ w2.cell? ⟨B, f + 1, none⟩ = some (.int .i32 1) ∧ w2.frozen? ⟨B, f, none⟩ = false ∧ w2.frozen? ⟨B, f + 1, none⟩ = false := by
    intro w2 h
    obtain ⟨_, d0, rfl, y0⟩ := is_at h rfl rfl (j := 0) (x := .w32 0) rfl rfl
    obtain ⟨_, d1, rfl, y1⟩ := is_at h rfl rfl (j := 1) (x := .int .i32 1) rfl rfl
    exact ⟨d0, d1, y0, y1⟩
  refine (once_slow B f (.func (.func g) #[.pointer (some ⟨B, f, none⟩)] #[]) w _ c0 (slow_any B f (.func g) #[.pointer (some ⟨B, f, none⟩)] #[] g #[.pointer (some ⟨B, f, none⟩)] R w rfl hgb rfl c0 c1 z0 z1 hg2 hR) (fun e w' h => h.1)).mono ?_
  rintro e w' ⟨rfl, w2, hw2, rfl⟩
  have k1 := put_first (y := .w32 1) hw2.drew rfl (v := .int .u32 1) rfl rfl
  have k2 := put_second (y := .int .i32 0) k1 rfl (v := .int .i32 0) rfl rfl
  exact ⟨.tuple #[], .tup [], _, [(B, f)], rfl, ⟨[], rfl, rfl, fun j x e => by simp at e⟩, HeapOk.onto ok1.ext k2, rfl, rfl⟩
theorem fn_once_done {rest : List Seg} {g : FuncId} :
    Go.Proofs.Ytndlhhhebijknaa.Sx.Fn Try.prog tds 63 [.one (.w32 1) :: rest] [.c (.p 0 0 0), .c (.clo g 0 0 0)] (fun _ => True) (fun x hs => x = .tup [] ∧ hs = [.one (.w32 1) :: rest]) := by
  intro w r0 vs ok ha _
  obtain ⟨⟨B, f⟩, rfl⟩ := List.length_eq_one_iff.1 ok.len
  obtain ⟨hl, ha⟩ := ha
  obtain ⟨v0, v1, rfl⟩ := len2' hl.symm
  obtain ⟨u, hu, B0, f0, hr0, rfl⟩ := ha 0 _ rfl
  simp at hu hr0
  obtain ⟨rfl, rfl⟩ := hr0
  subst hu
  obtain ⟨_, c0, rfl, z0⟩ := is_at ok rfl rfl (j := 0) (x := .w32 1) rfl rfl
  refine (once_done B f v1 w c0).mono ?_
  rintro e w' ⟨rfl, rfl⟩
  exact ⟨.tuple #[], .tup [], _, [(B, f)], rfl, ⟨[], rfl, rfl, fun j x e => by simp at e⟩, ok, rfl, rfl⟩
theorem fn_i64_add {l l' : List Seg} {off : Nat} {n : Int} (hx : (flat l)[off]? = some (.int .i64 n)) (hne : l ≠ []) (hp : Put [.one (.int .i64 (n + 1))] l l' off) (hn : -9223372036854775808 ≤ n + 1 ∧ n + 1 ≤ 9223372036854775807) :
    Go.Proofs.Ytndlhhhebijknaa.Sx.Fn Try.prog tds 68 [l] [.c (.p 0 off 0), .c (.int .i64 1)] (fun _ => True) (fun x hs => x = .a (.c (.int .i64 (n + 1))) ∧ hs = [l']) := by
  intro w r0 vs ok ha _
  obtain ⟨⟨B, f⟩, rfl⟩ := List.length_eq_one_iff.1 ok.len
  obtain ⟨hl, ha⟩ := ha
  obtain ⟨v0, v1, rfl⟩ := len2' hl.symm
  obtain ⟨u, hu, B0, f0, hr0, rfl⟩ := ha 0 _ rfl
  obtain ⟨u, hu1, rfl⟩ := ha 1 _ rfl
  simp at hu hu1 hr0
  obtain ⟨rfl, rfl⟩ := hr0
  subst hu
  subst hu1
  obtain ⟨_, c0, rfl, z0⟩ := is_at ok rfl rfl (j := off) hx rfl
  refine (i64_add ⟨B, f + off, none⟩ n w c0 z0 hn).mono ?_
  rintro e w' ⟨rfl, rfl⟩
  exact ⟨.int .i64 (n + 1), .a (.c (.int .i64 (n + 1))), _, [(B, f)], rfl, rfl, ok.put rfl (i := 0) rfl hne hp (vs := [.int .i64 (n + 1)]) ⟨rfl, fun j z e => by
    cases j with
    | zero => simp [flat] at e; subst e; exact ⟨_, rfl, rfl⟩
    | succ j => simp [flat] at e⟩ (Nat.zero_le _), rfl, rfl⟩
end Sx
end Go.Proofs.Ytndlhhhebijknaa
