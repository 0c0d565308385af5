/-
  append: what the old row held stands there. Over any program. No condition of its own.
-/
import Derived.Test.YtmpnhiehkiiepaaU64
namespace Go.Proofs.Ytmpnhiehkiiepaa
open Go.RowKit

theorem Rd.newg {α : Type} (f : α → Value) (w : World) (cs : Array Value) (t : TypeId) (l : List α) (g : Nat) (hg : w.heap.size = g) (h : cs.toList.take l.length = l.map f) : Rd f (w.alloc (.cells cs t)) (g + 1) (some ⟨g, 0, none⟩) l := by
  subst hg; exact Rd.new f w cs t l h

section
variable {P : Program} (w : World)
theorem run_app_kept (t ty e : TypeId) (z : Value) (bytes : Nat) (R : RowT P t e z bytes) (base : Nat) (v : Value) (n : Nat) (xs : List Value) (hown : w.ownsRow base e 1 v n xs)
    (B : Nat) (A : Option Addr) (m c : Nat) (news : List Value) (hr : Sl w B 1 A m news) (h1 : ∀ u ∈ news, u.oneCell' = true)
    (h63 : n + m ≤ 140737488355328) (hbytes : (n + m) * bytes ≤ 140737488355328) {v' : Value} {w' : World} (hrun : (Builtin.append_ #[t, t] ty #[v, .slice A m c]).run P w = .ok v' w') :
    ∀ g, v.ownBlock = some g → ∀ j u, xs[j]? = some u → w'.cell? ⟨g, j, none⟩ = some u := by
  intro g hg j u hj
  obtain ⟨i, hi, hz0, hz1, hz2⟩ := info_parts R.hi
  rcases hown.2 with ⟨rfl, _⟩ | ⟨g', cap, cur, rfl, hbg, hh, hnc, hcm, hcs, htake⟩
  · simp [Value.ownBlock] at hg
  · obtain rfl : g' = g := by simpa [Value.ownBlock] using hg
    have hlt : g' < w.heap.size := lt_of_block hh
    have hcell : w.cell? ⟨g', j, none⟩ = some u := by
      have hjl : j < n * 1 := by have := (List.getElem?_eq_some_iff.1 hj).1; have := hown.1; omega
      rw [hown.cellAt j hjl]; exact hj
    by_cases hm : m = 0
    · subst hm
      have hn : news = [] := List.eq_nil_of_length_eq_zero (by simpa using hr.1)
      subst hn
      have h0 : (Builtin.append_ #[t, t] ty #[.slice (some ⟨g', 0, none⟩) n cap, .slice A 0 c]).run P w = .ok (.slice (some ⟨g', 0, none⟩) n cap) w := by
        cases A <;> simp [Builtin.append_, run_underlying R.ht, sizeOf, typeInfo, hi, Builtin.lenOf, Builtin.firstCells, hnc, storeCells, loadCells, loadCellsFrom]
      rw [h0] at hrun
      injection hrun with _ hw
      subst hw
      exact hcell
    · obtain ⟨b, off, rfl, _, hc⟩ := hr.2 (by omega)
      have hc' : ∀ j u, news[j]? = some u → w.cell? ((⟨b, off, none⟩ : Addr).add j) = some u := by
        intro j u hu
        have e : (⟨b, off, none⟩ : Addr).add j = ⟨b, off + j, none⟩ := by unfold Addr.add; split <;> simp_all
        rw [e]; exact hc j u hu
      have hl1 : news.length = m * i.size := by rw [hz1]; exact hr.1
      by_cases hroom : n + m ≤ cap
      · have h0 := run_append_room (P := P) w t ty e i R.ht hi g' n cap cur hh ⟨b, off, none⟩ m c news hl1 hc' h1 hroom (by rw [hl1, hcs, hz1]; omega)
        rw [h0] at hrun
        injection hrun with _ hw
        subst hw
        have hs := setRow_heap w g' cur (cur.toList.take (n * i.size) ++ news ++ cur.toList.drop (n * i.size + news.length)).toArray e (0, 0) hh
        simp only [World.cell?, hs]
        rw [hz1, htake]
        simp only [List.append_assoc, List.getElem?_toArray]
        have hjl := (List.getElem?_eq_some_iff.1 hj).1
        rw [List.getElem?_append_left hjl]
        exact hj
      · have holds : ∀ j u, xs[j]? = some u → w.cell? ((⟨g', 0, none⟩ : Addr).add j) = some u := hown.cells (g := g') rfl
        have h0 := run_append_grow (P := P) w t ty e i z R.ht hi hz0 ⟨g', 0, none⟩ n cap xs (by rw [hz1]; exact hown.1) holds ⟨b, off, none⟩ m c news hl1 hc' (by omega) (by omega) (growslice_fits (by omega) (by rw [hz2]; exact hbytes))
        rw [h0] at hrun
        injection hrun with _ hw
        subst hw
        exact (World.cell?_alloc_lt w.drew _ ⟨g', j, none⟩ hlt).trans hcell
theorem wpList_appK {α : Type} {ops : Array Oper} {rest : List Oper} {o : Oper} {a : Act} {Q : Exit → Act → World → Prop} (hgd : o.guard = none) (s x : Operand) (t : TypeId)
    (ho : o.op = .call { callee := .builtin .append, args := #[s, x], argTypes := #[t, t] })
    (e : TypeId) (z : Value) (bytes : Nat) (R : RowT P t e z bytes) (f : α → Value) (hf : ∀ x, (f x).oneCell' = true) (base : Nat) (As : Option Addr) (n cs : Nat) (l : List α) (hs : a.eval s = .slice As n cs) (hown : Own f e w base (.slice As n cs) l)
    (B : Nat) (A : Option Addr) (m c : Nat) (r : List α) (hx : a.eval x = .slice A m c) (hr : Rd f w B A r) (hm : r.length = m) (N : Nat) (hN : n + m = N)
    (h63 : N ≤ 140737488355328) (hbytes : N * bytes ≤ 140737488355328) (hbase : base ≤ w.heap.size)
    (h : ∀ A' c' w', Own f e w' base (.slice A' N c') (l ++ r) → Grow w w' (.slice As n cs) (.slice A' N c') → Rd f w' w'.heap.size As l → wpList P ops Q rest (a.put o.dst (.slice A' N c')) w') :
    wpList P ops Q (o :: rest) a w := by
  subst hN
  subst hm
  obtain ⟨hn, -, -⟩ := hown.cap
  subst hn
  have h1 : ∀ u ∈ r.map f, u.oneCell' = true := by
    intro u hu
    obtain ⟨y, _, rfl⟩ := List.mem_map.1 hu
    exact hf y
  refine wpList_plain hgd fun K hK => ?_
  obtain ⟨A', c', w', hrun, h2, h3, -, -⟩ := run_app (P := P) w t o.type e z bytes R base _ l.length (l.map f) hown B A r.length c (r.map f) hr h1 h63 hbytes hbase
  have hkept := run_app_kept (P := P) w t o.type e z bytes R base _ l.length (l.map f) hown B A r.length c (r.map f) hr h1 h63 hbytes hrun
  unfold Oper.wp execOp
  simp only [ho, resolve, invoke, builtin, Sem.run_bind, Sem.run_pure, Result.andThen_ok, List.map_toArray, List.map_cons, List.map_nil, hs, hx, hrun]
  refine hK _ _ (h A' c' w' ?_ h3 ?_)
  · unfold Own
    rw [List.length_append, List.map_append]
    exact h2
  · refine ⟨by simp, fun hn => ?_⟩
    obtain ⟨g, hA, _, hlt⟩ := hown.form hn
    subst hA
    exact ⟨g, 0, rfl, by have := h3.size; omega, fun j u hu => by rw [Nat.zero_add]; exact hkept g rfl j u hu⟩
end
end Go.Proofs.Ytmpnhiehkiiepaa
