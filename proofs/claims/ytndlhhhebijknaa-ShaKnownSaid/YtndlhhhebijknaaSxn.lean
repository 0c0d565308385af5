/-
  Operations in their regions. Over any program. No condition of its own.
-/
import Derived.Test.YtndlhhhebijknaaSxm3
namespace Go.Proofs.Ytndlhhhebijknaa
set_option linter.unusedVariables false
namespace Sx
open Go.RowKit

section
variable {C : Cx} {t : List SV} {h : List (List Seg)} {r : Rho} {a : Act} {w : World}
theorem evs_spec (ok : Ok C ⟨t, h⟩ r a w) : ∀ {xs : List Operand} {K : List SA → Prop}, evs t xs K → ∃ l, K l ∧ IsAs r l (xs.map a.eval)
  | [], K, hk => ⟨[], hk, rfl, fun j x e => by simp at e⟩
  | x :: xs, K, hk => by
    have hv := ok.ev x
    have cons : ∀ {y : SA} {l : List SA}, SA.Is r y (a.eval x) → IsAs r l (xs.map a.eval) → IsAs r (y :: l) ((x :: xs).map a.eval) := by
      intro y l h1 h2
      refine ⟨by simpa using h2.1, fun j z e => ?_⟩
      cases j with
      | zero => simp at e; subst e; exact ⟨_, rfl, h1⟩
      | succ j => exact h2.2 j z e
    unfold evs at hk
    split at hk
    · rename_i y e
      simp only [e] at hv
      rw [frcSC_eq] at hk
      obtain ⟨l, h1, h2⟩ := evs_spec ok hk
      exact ⟨_, h1, cons hv h2⟩
    · rename_i g e
      simp only [e] at hv
      obtain ⟨l, h1, h2⟩ := evs_spec ok hk
      exact ⟨_, h1, cons hv h2⟩
    · exact hk.elim
theorem Ok.put {s : St} {r' : Rho} {w' : World} {h' : List (List Seg)} {x : SV} {v : Value} (ok : Ok C s r a w) (hr : RLe r r') (hh : HeapOk C h' r' w') (hx : x.Is r' v) (d : Nat) : Ok C ⟨s.t.set d x, h'⟩ r' (a.put (some d) v) w' := by
  refine ⟨hh, by simpa [Act.put] using ok.size, fun e y he => ?_, ok.defers⟩
  by_cases hde : d = e
  · subst hde
    simp only [List.getElem?_set_self'] at he
    cases hs : s.t[d]? with
    | none => rw [hs] at he; cases he
    | some z =>
      rw [hs] at he
      simp at he
      subst he
      have hd : d < a.tmps.size := by
        rw [ok.size]
        rcases Nat.lt_or_ge d s.t.length with h | h
        · exact h
        · rw [List.getElem?_eq_none h] at hs; cases hs
      simp only [Act.put]
      simpa [hd] using hx
  · rw [List.getElem?_set_ne hde] at he
    have := ok.slots e y he
    simp only [Act.put]
    rw [show (a.tmps.setIfInBounds d v).getD e undef = a.tmps.getD e undef by
      rw [Array.getD_eq_getD_getElem?, Array.getD_eq_getD_getElem?, Array.getElem?_setIfInBounds_ne hde]]
    exact this.mono hr
theorem Ok.keep {s : St} {r' : Rho} {w' : World} {h' : List (List Seg)} (ok : Ok C s r a w) (hr : RLe r r') (hh : HeapOk C h' r' w') : Ok C ⟨s.t, h'⟩ r' a w' :=
  ⟨hh, ok.size, fun e y he => (ok.slots e y he).mono hr, ok.defers⟩
theorem putD_spec {s : St} {r' : Rho} {w' : World} {h' : List (List Seg)} {x : SV} {v : Value} (ok : Ok C s r a w) (hr : RLe r r') (hh : HeapOk C h' r' w') (hx : x.Is r' v) {d : Option Tmp} {K : List SV → Prop} (hk : putD d x s.t K) :
    ∃ t', K t' ∧ Ok C ⟨t', h'⟩ r' (a.put d v) w' := by
  unfold putD at hk
  split at hk
  · rw [frcV_eq, setT_eq] at hk
    exact ⟨_, hk, ok.put hr hh hx _⟩
  · exact ⟨_, hk, ok.keep hr hh⟩
theorem undef_is (r : Rho) : SV.Is r (.tup []) undef := ⟨[], rfl, rfl, fun j x e => by simp at e⟩
/-- From here on. -/
abbrev based (C : Cx) (r : Rho) (w : World) : Cx := ⟨C.P, C.T, w, (r.drop C.ro).map (·.1), r, C.ro, C.live⟩
theorem srcC_mono {C' : Cx} (hR : ∀ b l, RawAt C b l → RawAt C' b l) {sz : Nat} {x : SV} {K : Nat → (Nat → SC) → Prop} (hk : srcC C sz h x K) : srcC C' sz h x K := by
  unfold srcC at hk ⊢
  split at hk
  · exact hk
  · exact hk
  · obtain ⟨f, h1, h2⟩ := hk
    exact ⟨f, hR _ _ h1, h2⟩
  · exact hk
  · exact hk
  · exact hk.elim
theorem td_imp {C' : Cx} (hT : C'.T = C.T) {u : Nat} {K K' : TD → Prop} (hK : ∀ d, K d → K' d) (hk : td C u K) : td C' u K' := by
  unfold td at hk ⊢
  rw [hT]
  cases e : findT C.T u with
  | none => rw [e] at hk; exact hk.elim
  | some d => rw [e] at hk; exact hK _ hk
theorem stepC_mono {w1 : World} {m1 : List Nat} {r1 : Rho} (hR : ∀ b l, RawAt C b l → RawAt ⟨C.P, C.T, w1, m1, r1, C.ro, C.live⟩ b l) {op : Op} {k : SV → List (List Seg) → Prop} (hk : stepC C op t h k) : stepC ⟨C.P, C.T, w1, m1, r1, C.ro, C.live⟩ op t h k := by
  cases op <;> try exact hk
  rename_i c
  obtain ⟨f, args, ts⟩ := c
  cases f <;> try exact hk
  rename_i b
  cases b <;> try exact hk
  · have hk : appS C t h args.toList ts.toList k := hk
    show appS _ t h args.toList ts.toList k
    unfold appS at hk ⊢
    split at hk <;> try exact hk.elim
    refine td_imp (C := C) (C' := ⟨C.P, C.T, w1, m1, r1, C.ro, C.live⟩) rfl (fun d hk => ?_) hk
    cases hd : d.k <;> simp only [hd] at hk ⊢
    refine td_imp (C := C) (C' := ⟨C.P, C.T, w1, m1, r1, C.ro, C.live⟩) rfl (fun de hk => ?_) hk
    refine td_imp (C := C) (C' := ⟨C.P, C.T, w1, m1, r1, C.ro, C.live⟩) rfl (fun d2 hk => ?_) hk
    cases h1 : isIntK d2.k <;> cases h2 : de.size <;> cases h3 : de.bytes <;> simp only [h1, h2, h3] at hk ⊢
    exact srcC_mono (C := C) hR hk
  · have hk : cpS C t h args.toList ts.toList k := hk
    show cpS _ t h args.toList ts.toList k
    unfold cpS at hk ⊢
    split at hk <;> try exact hk.elim
    refine td_imp (C := C) (C' := ⟨C.P, C.T, w1, m1, r1, C.ro, C.live⟩) rfl (fun d hk => ?_) hk
    cases hd : d.k <;> simp only [hd] at hk ⊢
    refine td_imp (C := C) (C' := ⟨C.P, C.T, w1, m1, r1, C.ro, C.live⟩) rfl (fun de hk => ?_) hk
    split at hk <;> try exact hk.elim
    exact srcC_mono (C := C) hR hk
theorem mem_drop {r : Rho} {n B : Nat} : B ∈ (r.drop n).map (·.1) ↔ ∃ i f, n ≤ i ∧ r[i]? = some (B, f) := by
  constructor
  · intro h
    obtain ⟨⟨B', f⟩, hx, rfl⟩ := List.mem_map.1 h
    obtain ⟨i, hi, e⟩ := List.mem_iff_getElem.1 hx
    have e' : (r.drop n)[i]? = some (B', f) := by rw [List.getElem?_eq_getElem hi, e]
    rw [List.getElem?_drop] at e'
    exact ⟨n + i, f, by omega, e'⟩
  · rintro ⟨i, f, hi, e⟩
    refine List.mem_map.2 ⟨(B, f), List.mem_of_getElem? (i := i - n) ?_, rfl⟩
    rw [List.getElem?_drop, show n + (i - n) = i by omega, e]
theorem HeapOk.mem (ok : HeapOk C h r w) {B : Nat} (hB : B ∈ (r.drop C.ro).map (·.1)) : B ∈ C.m ∨ C.w0.heap.size ≤ B := by
  obtain ⟨i, f, hi, e⟩ := mem_drop.1 hB
  exact ok.own i _ _ hi e
theorem HeapOk.based (ok : HeapOk C h r w) : HeapOk (Sx.based C r w) h r w :=
  ⟨Ext.refl _ _, RLe.refl _, Nat.le_trans ok.rol ok.rlen, ok.len, ok.chunks, ok.lt, fun i B f ho h => .inl (mem_drop.2 ⟨i, f, ho, h⟩), fun i B f ho hl hr => by
    obtain ⟨a1, a2⟩ := ok.ros i B f ho hl hr
    refine ⟨fun hc => ?_, Nat.lt_of_lt_of_le a2 ok.ext.size⟩
    rcases ok.mem hc with h | h
    · exact a1 h
    · omega, ok.dead, ok.apart⟩
theorem HeapOk.unbase {h' : List (List Seg)} {r' : Rho} {w' : World} (ok : HeapOk C h r w) (k : HeapOk (Sx.based C r w) h' r' w') : HeapOk C h' r' w' :=
  ⟨ok.ext.trans2 k.ext (fun i hi => ok.mem hi), ok.agree.trans k.agree, ok.rol, k.len, k.chunks, k.lt, fun i B f ho hr => by
    rcases k.own i B f ho hr with h1 | h1
    · exact ok.mem h1
    · exact .inr (Nat.le_trans ok.ext.size h1), fun i B f ho hl hr => by
    have hir : i < r.length := by have := ok.rol; have := ok.rlen; omega
    have e := k.agree i _ (List.getElem?_eq_getElem hir)
    rw [hr] at e
    injection e with e
    exact ok.ros i B f ho hl (by rw [List.getElem?_eq_getElem hir, ← e]), k.dead, k.apart⟩
theorem HeapOk.raw (ok : HeapOk C h r w) (b : Addr) (l : List SC) (hr : RawAt C b l) : RawAt (Sx.based C r w) b l := by
  obtain ⟨h1, h2, h3, h4⟩ := hr
  refine ⟨h1, Nat.lt_of_lt_of_le h2 ok.ext.size, fun hc => ?_, fun j x e => ?_⟩
  · rcases ok.mem hc with h | h
    · exact h3 h
    · omega
  · obtain ⟨v, e1, e2⟩ := h4 j x e
    exact ⟨v, ok.ext.cell (p := ⟨b.block, b.off + j, none⟩) h3 e1, e2⟩
theorem Near.refl (e : Ext C.m C.w0 w) (l : List Nat) : Near C r l w w := ⟨e, fun _ _ _ _ _ _ _ => rfl⟩
theorem Stand.of_quiet {q : Keep} {w' : World} (ok : HeapOk C h r w) (e : Ext [] w w') : Stand C q r w w' := by
  cases q with
  | free => trivial
  | all => exact e
  | only l => exact ⟨ok.ext.quiet e, fun i _ _ B f hr hB => e.block B hB (by simp)⟩
theorem Frm.of (ok : HeapOk C h r w) {q : Keep} {h' : List (List Seg)} {r' : Rho} {w' : World} (k : HeapOk (based C r w) h' r' w') (e : q.binds = true → Ext [] w w') : Frm C q r w r' w' :=
  ⟨k.ext, k.own, by
    cases q with
    | free => trivial
    | all => exact e rfl
    | only l => exact Stand.of_quiet (q := .only l) ok (e rfl)⟩
theorem Frm.refl (ok : HeapOk C h r w) (q : Keep) : Frm C q r w r w :=
  ⟨Ext.refl _ _, fun i B f ho h => .inl (mem_drop.2 ⟨i, f, ho, h⟩), Stand.of_quiet ok (Ext.refl _ _)⟩
theorem getH_some {i : Nat} (h1 : getH h i ≠ []) : h[i]? = some (getH h i) := by
  rw [getH_eq] at h1 ⊢
  cases e : h[i]? with
  | none => rw [e] at h1; exact absurd rfl h1
  | some c => rfl
theorem aptN_spec {h : List (List Seg)} {i : Nat} : ∀ {l : List Nat}, aptN h i l = true → ∀ j ∈ l, j < h.length → j ≠ i ∧ getH h j ≠ []
  | [], _, j, hj, _ => by cases hj
  | x :: l, hh, j, hj, hl => by
    simp only [aptN, Bool.and_eq_true] at hh
    cases hj with
    | tail _ hj => exact aptN_spec hh.2 j hj hl
    | head =>
      have h1 := hh.1
      split at h1
      · simp only [Bool.and_eq_true, Bool.not_eq_true'] at h1
        refine ⟨fun hc => ?_, fun e => ?_⟩
        · subst hc
          have := h1.1
          rw [Nat.beq_refl] at this
          cases this
        · rw [e] at h1
          exact absurd h1.2 (by simp)
      · rename_i hb
        have := Nat.ble_eq_true_of_le hl
        rw [show (Nat.succ _).ble h.length = Nat.blt _ h.length from rfl] at this
        rw [this] at hb
        cases hb
/-- A slice's memory is marked as a constant's. -/
def marked (w : World) (B : Nat) : World := match w.shape? B with
  | some (_, n) => w.freeze ⟨B, n, none⟩ 1
  | none => w
theorem marked_ne (w : World) {B k : Nat} (h : k ≠ B) : (marked w B).heap[k]? = w.heap[k]? := by
  unfold marked
  split
  · unfold World.freeze
    rw [if_neg (by decide)]
    simp only [Array.getElem?_modify, if_neg (Ne.symm h)]
  · rfl
theorem marked_size (w : World) (B : Nat) : (marked w B).heap.size = w.heap.size := by
  unfold marked
  split
  · unfold World.freeze
    rw [if_neg (by decide)]
    simp
  · rfl
theorem marked_at (w : World) (B : Nat) {c : Array Value} {t : TypeId} {lo hi : Nat} (h : w.heap[B]? = some (.cells c t (lo, hi))) :
    (marked w B).heap[B]? = some (.cells c t (if lo == hi then (c.size, c.size + 1) else (min lo c.size, max hi (c.size + 1)))) := by
  have hs : w.shape? B = some (t, c.size) := by unfold World.shape?; rw [h]
  unfold marked
  rw [hs]
  simp only
  unfold World.freeze
  rw [if_neg (by decide)]
  simp [Array.getElem?_modify, h]
theorem marked_none (w : World) (B : Nat) (h : ∀ c t z, w.heap[B]? ≠ some (.cells c t z)) : marked w B = w := by
  unfold marked World.shape?
  cases e : w.heap[B]? with
  | none => rfl
  | some x =>
    cases x with
    | cells c t z => exact absurd e (h c t z)
    | _ => rfl
theorem marked_cases (w : World) (B : Nat) : marked w B = w ∨ ∃ c t lo hi, w.heap[B]? = some (.cells c t (lo, hi)) := by
  by_cases h : ∃ c t z, w.heap[B]? = some (.cells c t z)
  · obtain ⟨c, t, ⟨lo, hi⟩, e⟩ := h
    exact .inr ⟨c, t, lo, hi, e⟩
  · exact .inl (marked_none w B fun c t z e => h ⟨c, t, z, e⟩)
theorem marked_cell (w : World) (B : Nat) (a : Addr) : (marked w B).cell? a = w.cell? a := by
  by_cases hb : a.block = B
  · rcases marked_cases w B with e | ⟨c, t, lo, hi, e⟩
    · rw [e]
    · unfold World.cell?
      rw [hb, marked_at w B e, e]
  · unfold World.cell?
    rw [marked_ne w hb]
theorem Clean.marked {w : World} {B k : Nat} (h : Clean w k) : Clean (marked w B) k := by
  by_cases hk : k = B
  · subst hk
    rcases marked_cases w k with e | ⟨c, t, lo, hi, e⟩
    · rw [e]; exact h
    · intro c' t' lo' hi' e'
      rw [marked_at w k e] at e'
      injection e' with e'
      injection e' with e1 e2 e3
      subst e1
      right
      split at e3
      · injection e3 with e4 e5; omega
      · rename_i hne
        injection e3 with e4 e5
        have := h c t lo hi e
        have hne : lo ≠ hi := by simpa using hne
        omega
  · exact h.block (marked_ne w hk)
theorem ext_marked {m : List Nat} {w w' : World} {B : Nat} (e : Ext m w w') (h : B ∈ m ∨ w.heap.size ≤ B) : Ext m w (marked w' B) :=
  ⟨by unfold Sx.marked; split <;> (try unfold World.freeze) <;> exact e.os, by unfold Sx.marked; split <;> (try unfold World.freeze) <;> exact e.tape, by unfold Sx.marked; split <;> (try unfold World.freeze) <;> exact e.output, by rw [marked_size]; exact e.size, fun k hk hm => by
    rw [marked_ne w' (fun hc => by subst hc; rcases h with h | h; exact hm h; omega)]
    exact e.block k hk hm⟩
theorem HeapOk.marked (ok : HeapOk C h r w) {i B f : Nat} (hr : r[i]? = some (B, f)) (hro : C.ro ≤ i) : HeapOk C h r (Sx.marked w B) :=
  ⟨ext_marked ok.ext (ok.own i B f hro hr), ok.agree, ok.rol, ok.len, fun j ch B' f' hj hrj q x e => by
    obtain ⟨v, e1, e2, e3⟩ := ok.chunks j ch B' f' hj hrj q x e
    exact ⟨v, by rw [marked_cell]; exact e1, e2, fun hz => (e3 hz).marked⟩, fun j B' f' ho hrj => by rw [marked_size]; exact ok.lt j B' f' ho hrj, ok.own, ok.ros, ok.dead, ok.apart⟩
theorem run_mark {P : Program} (w : World) (t e : TypeId) (B o n c : Nat) (ht : P.underlying t = some (.slice e)) (he : P.underlying e = some (.int .u8)) :
    (convert t t (.slice (some ⟨B, o, none⟩) n c)).run P w = .ok (.slice (some ⟨B, o, none⟩) n c) (Sx.marked w B) := by
  unfold Sx.marked
  cases hs : w.shape? B with
  | none => simp [convert, run_underlying ht, run_underlying he, markStringish, hs]
  | some x => simp [convert, run_underlying ht, run_underlying he, markStringish, hs]
/-- One operation that runs. -/
theorem step_sound {o : Oper} {q : Keep} {k : SV → List (List Seg) → Prop} (hT : AllT C.P C.T) (ok : Ok C ⟨t, h⟩ r a w) (hk : step C q o t h k) {next : Act → World → Prop} {Q : Exit → Act → World → Prop}
    (hn : ∀ v x h' r' w', x.Is r' v → RLe r r' → HeapOk C h' r' w' → Frm C q r w r' w' → k x h' → next (a.put o.dst v) w') : o.wp C.P a w next Q := by
  unfold step at hk
  have okB : Ok (based C r w) ⟨t, h⟩ r a w := ⟨ok.heap.based, ok.size, ok.slots, ok.defers⟩
  split at hk
  · split at hk
    · split at hk <;> try exact hk.elim
      rename_i l i0 htg _
      split at hk <;> try exact hk.elim
      rename_i hok
      obtain ⟨v, x, h', r', w', h1, h2, h3, h4', ⟨m, hext, hm⟩, h6⟩ := stepC_sound (C := (based C r w)) hT okB (stepC_mono ok.heap.raw hk)
      have h4 := ok.heap.unbase h4'
      have hx : Frm C (.only l) r w r' w' := ⟨h4'.ext, h4'.own, h4.ext, fun i hi ho B f hr hB => hext.block B hB fun hBm => by
        obtain ⟨y, ht, hb⟩ := hm B hBm
        simp only [tgtOk, Bool.and_eq_true] at hok
        obtain ⟨⟨o1, o2⟩, o3⟩ := hok
        have hne0 : getH h i0 ≠ [] := fun e => by rw [e] at o2; cases o2
        have hil : i < h.length := by
          rw [← ok.heap.len]
          rcases Nat.lt_or_ge i r.length with h | h
          · exact h
          · rw [List.getElem?_eq_none h] at hr; cases hr
        obtain ⟨hij, hne⟩ := aptN_spec o3 i hi hil
        have h0 : ∃ f0, r[i0]? = some (B, f0) := by
          unfold tgtN at htg
          rw [ht] at htg
          have hv := ok.ev y
          simp only at htg
          split at htg
          · rename_i j b' o' e
            simp only [e] at hv
            obtain ⟨B', f', hr', hv⟩ := hv
            injection htg with htg
            subst htg
            rw [show a.eval y = _ from hv] at hb
            injection hb with hb
            subst hb
            exact ⟨f', hr'⟩
          · rename_i j b' o' n' c' e
            simp only [e] at hv
            obtain ⟨B', f', hr', hv⟩ := hv
            injection htg with htg
            subst htg
            rw [show a.eval y = _ from hv] at hb
            injection hb with hb
            subst hb
            exact ⟨f', hr'⟩
          · cases htg
        obtain ⟨f0, hr0⟩ := h0
        have g1 : h[i]? = some (getH h i) := getH_some hne
        have g0 : h[i0]? = some (getH h i0) := getH_some hne0
        rcases ok.heap.apart i i0 B f f0 _ _ hij ho (ble_le o1) g1 g0 hr hr0 with h | h
        · exact hne h
        · exact hne0 h⟩
      unfold Oper.wp
      rcases h6 o rfl with e | ⟨e, rfl⟩
      · rw [e]; exact hn v x h' r' w' h2 h3 h4 hx h1
      · rw [e]; exact hn undef x h' r' w' h2 h3 h4 hx h1
    · rename_i hq
      obtain ⟨v, x, h', r', w', h1, h2, h3, h4', h5, h6⟩ := stepC_sound (C := (based C r w)) hT okB (stepC_mono ok.heap.raw hk)
      have h4 := ok.heap.unbase h4'
      have hx : Frm C q r w r' w' := Frm.of ok.heap h4' (fun e => h5.quiet (by rw [e] at hq; simpa using hq))
      unfold Oper.wp
      rcases h6 o rfl with e | ⟨e, rfl⟩
      · rw [e]; exact hn v x h' r' w' h2 h3 h4 hx h1
      · rw [e]; exact hn undef x h' r' w' h2 h3 h4 hx h1
  · rename_i hch
    have read : stepR C o.op t h (fun x => k x h) → o.wp C.P a w next Q := by
      intro hk
      obtain ⟨v, x, h1, h2, h3⟩ := stepR_sound hT ok hk
      unfold Oper.wp
      rw [h3 o w rfl (Near.refl ok.heap.ext _)]
      exact hn v x h r w h2 (RLe.refl _) ok.heap (Frm.refl ok.heap q) h1
    split at hk
    · rename_i f args ts hop
      have enter : ∀ {g : FuncId} {first cap : Array Value}, a.eval f = .func (.func g) first cap → callable C.P g = true → (execOp a.eval o).run C.P w = .ok (.enter g (first ++ (args.toList.map a.eval).toArray ++ cap)) w := by
        intro g first cap hv hc
        obtain ⟨fn, hfn, hb⟩ : ∃ fn, C.P.funcs[g]? = some fn ∧ (fn.body.isSome && fn.name != "runtime.NumGoroutine") = true := by
          unfold callable at hc
          cases e : C.P.funcs[g]? with
          | none => rw [e] at hc; cases hc
          | some fn => rw [e] at hc; exact ⟨fn, rfl, hc⟩
        simp only [Bool.and_eq_true, bne_iff_ne] at hb
        simp only [execOp, hop, resolve, hv, Deferred.ofValue, Sem.run_bind, Sem.run_pure, Result.andThen_ok, invoke, callFunc, run_program, hfn]
        have h1 : (fn.name == "runtime.NumGoroutine") = false := by simpa using hb.2
        have h2 : fn.body.isNone = false := by
          cases e : fn.body with
          | none => rw [e] at hb; exact absurd hb.1 (by simp)
          | some b => rfl
        simp only [h1, h2, Bool.false_eq_true, if_false]
        have h3 : args.map a.eval = (args.toList.map a.eval).toArray := by rw [← Array.toList_map]
        rw [h3]; rfl
      split at hk <;> try exact hk.elim
      · rename_i g first cap hf
        obtain ⟨hc, hk⟩ := hk
        obtain ⟨l, hk, hl⟩ := evs_spec ok hk
        have hv := ok.ev f
        simp only [hf] at hv
        have hv : a.eval f = .func (.func g) first cap := hv
        have hcall := hk r a w _ ok hl
        unfold Oper.wp
        rw [enter hv hc]
        refine hcall.mono ?_
        rintro e' w' ⟨v, x, h', r', rfl, h1, h2, h3, h4, h5⟩
        exact hn v x h' r' w' h1 h2 h3 h4 h5
      · rename_i g i b' o' hf
        obtain ⟨hc, hk⟩ := hk
        obtain ⟨l, hk, hl⟩ := evs_spec ok hk
        have hv := ok.ev f
        simp only [hf] at hv
        obtain ⟨B, f', hr, hv⟩ := hv
        have hcall := hk r a w (.pointer (some ⟨B, f' + (b' + o'), none⟩) :: args.toList.map a.eval) ok ⟨by simpa using hl.1, fun j x e => by
          cases j with
          | zero => simp at e; subst e; exact ⟨_, rfl, B, f', hr, rfl⟩
          | succ j => exact hl.2 j x e⟩
        have hargs : (#[] : Array Value) ++ (Value.pointer (some ⟨B, f' + (b' + o'), none⟩) :: args.toList.map a.eval).toArray ++ #[] = #[.pointer (some ⟨B, f' + (b' + o'), none⟩)] ++ (args.toList.map a.eval).toArray ++ #[] := by simp
        rw [hargs] at hcall
        unfold Oper.wp
        rw [enter hv hc]
        refine hcall.mono ?_
        rintro e' w' ⟨v, x, h', r', rfl, h1, h2, h3, h4, h5⟩
        exact hn v x h' r' w' h1 h2 h3 h4 h5
    · rename_i u v' y hop
      obtain ⟨du, hu, hk⟩ := td_spec hT hk
      obtain ⟨dv, hv, hk⟩ := td_spec hT hk
      split at hk
      · obtain ⟨v, x, h', r', w', h1, h2, h3, h4', h5, h6⟩ := stepC_sound (C := (based C r w)) hT okB (stepC_mono ok.heap.raw hk)
        have h4 := ok.heap.unbase h4'
        have hx : Frm C q r w r' w' := Frm.of ok.heap h4' (fun _ => h5.quiet rfl)
        unfold Oper.wp
        rcases h6 o hop with e | ⟨e, rfl⟩
        · rw [e]; exact hn v x h' r' w' h2 h3 h4 hx h1
        · rw [e]; exact hn undef x h' r' w' h2 h3 h4 hx h1
      · rename_i e1 e ek1 ek2
        split at hk <;> try exact hk.elim
        obtain ⟨de, hde, hk⟩ := td_spec hT hk
        split at hk <;> try exact hk.elim
        rename_i i b o' n c ek3 huv hx
        split at hk <;> try exact hk.elim
        rename_i hro _
        have hk9 := hk
        clear hk
        obtain rfl : u = v' := Nat.eq_of_beq_eq_true huv
        have k1 := hu.kind
        have k2 := hde.kind
        have k3 := hv.kind
        rw [ek2] at k3
        rw [ek3] at k2
        simp only [TK.Ok] at k2 k3
        have hev := ok.ev y
        simp only [hx] at hev
        obtain ⟨B, f, hr, hev⟩ := hev
        have h4' := (ok.heap.based).marked hr (ble_le hro)
        unfold Oper.wp
        have hrun := run_mark (P := C.P) w u _ B (f + (b + o')) n c k3 k2
        have : (execOp a.eval o).run C.P w = .ok (.value (.slice (some ⟨B, f + (b + o'), none⟩) n c)) (Sx.marked w B) := by
          simp only [execOp, hop]
          rw [show a.eval y = _ from hev]
          exact exec_v hrun
        rw [this]
        exact hn _ (.a (.c (.sl i b o' n c))) h r _ ⟨B, f, hr, rfl⟩ (RLe.refl _) (ok.heap.unbase h4') (Frm.of ok.heap h4' (fun hc => Bool.noConfusion hc)) hk9
      · exact read (by rw [hop]; exact hk)
    · exact read hk
/-- Whether it runs. -/
theorem guard_spec {ops : Array Oper} {o : Oper} {yes no : Prop} (ok : Ok C ⟨t, h⟩ r a w) (hk : guard ops o t yes no) :
    (Region.wanted o (yielded ops a.tmps) = true ∧ yes) ∨ (Region.wanted o (yielded ops a.tmps) = false ∧ no) := by
  unfold guard at hk
  split at hk
  · rename_i hg
    exact .inl ⟨by simp [Region.wanted, hg], hk⟩
  · rename_i j want hg
    split at hk <;> try exact hk.elim
    rename_i d hd
    have hs := ok.get d
    have ey : ∀ (b : Bool), a.tmps.getD d undef = .bool b → yielded ops a.tmps j = some b := by
      intro b hb
      unfold dstOf at hd
      have : a.tmps[d]? = some (.bool b) := by
        rw [Array.getD_eq_getD_getElem?] at hb
        cases e : a.tmps[d]? with
        | none => rw [e] at hb; cases hb
        | some v => rw [e] at hb; simp at hb; rw [hb]
      simp only [yielded, hd, Option.bind_some, this]
    split at hk <;> try exact hk.elim
    · rename_i b e
      simp only [e] at hs
      have hy := ey b hs
      cases want <;> cases b <;> simp only [Region.wanted, hg, hy] <;> simp at hk ⊢ <;> exact hk
    · rename_i e
      simp only [e] at hs
      obtain ⟨vs, e1, e2, _⟩ := hs
      have : vs = [] := List.eq_nil_of_length_eq_zero e2.symm
      subst this
      refine .inr ⟨?_, hk⟩
      have : yielded ops a.tmps j = none := by
        unfold dstOf at hd
        simp only [yielded, hd, Option.bind_some]
        rw [Array.getD_eq_getD_getElem?] at e1
        cases e : a.tmps[d]? with
        | none => rfl
        | some v => rw [e] at e1; simp at e1; subst e1; rfl
      simp [Region.wanted, hg, this]
/-- A slot's new content. -/
def putT (d : Option Tmp) (x : SV) (t : List SV) : List SV := match d with
  | some d => t.set d x
  | none => t
theorem putD_eq {d : Option Tmp} {x : SV} {t : List SV} {K : List SV → Prop} (hk : putD d x t K) : K (putT d x t) := by
  unfold putD at hk
  split at hk
  · rw [frcV_eq, setT_eq] at hk; exact hk
  · exact hk
theorem Ok.putT {s : St} {r' : Rho} {w' : World} {h' : List (List Seg)} {x : SV} {v : Value} (ok : Ok C s r a w) (hr : RLe r r') (hh : HeapOk C h' r' w') (hx : x.Is r' v) (d : Option Tmp) : Ok C ⟨Sx.putT d x s.t, h'⟩ r' (a.put d v) w' := by
  cases d with
  | none => exact ok.keep hr hh
  | some d => exact ok.put hr hh hx d
/-- One operation, whether it runs or not. -/
theorem one_sound {ops : Array Oper} {o : Oper} {q : Keep} {s : St} {K : St → Prop} (hT : AllT C.P C.T) (ok : Ok C s r a w) (hk : one C q ops o s K) {next : Act → World → Prop} {Q : Exit → Act → World → Prop}
    (hn : ∀ x v h' r' w', K ⟨putT o.dst x s.t, h'⟩ → Ok C ⟨putT o.dst x s.t, h'⟩ r' (a.put o.dst v) w' → RLe r r' → Frm C q r w r' w' → next (a.put o.dst v) w') :
    if Region.wanted o (yielded ops a.tmps) then o.wp C.P a w next Q else next (a.put o.dst undef) w := by
  obtain ⟨t, h⟩ := s
  unfold one at hk
  rcases guard_spec ok hk with ⟨hw, hk⟩ | ⟨hw, hk⟩
  · rw [if_pos hw]
    refine step_sound hT ok hk ?_
    intro v x h' r' w' hx hr hh hq hk
    exact hn x v h' r' w' (putD_eq hk) (ok.putT hr hh hx _) hr hq
  · rw [if_neg (by simp [hw])]
    exact hn _ _ _ _ _ (putD_eq hk) (ok.putT (RLe.refl _) ok.heap (undef_is r) _) (RLe.refl _) (Frm.refl ok.heap q)
/-- One operation that reads. -/
theorem one_read {ops : Array Oper} {o : Oper} {s : St} {K : St → Prop} (hT : AllT C.P C.T) (ok : Ok C s r a w) (hk : oneR C ops o s K) :
    ∃ v x, K ⟨putT o.dst x s.t, s.h⟩ ∧ Ok C ⟨putT o.dst x s.t, s.h⟩ r (a.put o.dst v) w ∧ YieldsIf C.P ops (fun w' => Near C r (seen s.t o.op) w w') o v a := by
  obtain ⟨t, h⟩ := s
  unfold oneR at hk
  rcases guard_spec ok hk with ⟨hw, hk⟩ | ⟨hw, hk⟩
  · obtain ⟨v, x, h1, h2, h3⟩ := stepR_sound hT ok hk
    exact ⟨v, x, putD_eq h1, ok.putT (RLe.refl _) ok.heap h2 _, .inl ⟨hw, fun w' hx => h3 o w' rfl hx⟩⟩
  · exact ⟨undef, _, putD_eq hk, ok.putT (RLe.refl _) ok.heap (undef_is r) _, .inr ⟨hw, rfl⟩⟩
/-- Operations in the text's order. -/
theorem vcOps_sound {ops : Array Oper} {K : St → Prop} {Q : Exit → Act → World → Prop} (hT : AllT C.P C.T) (hQ : ∀ s' r' a' w', K s' → Ok C s' r' a' w' → Q .normal a' w') :
    ∀ {l : List Oper} {s : St} {r : Rho} {a : Act} {w : World}, vcOps C ops l s K → Ok C s r a w → wpList C.P ops Q l a w
  | [], _, _, _, _, hk, ok => hQ _ _ _ _ hk ok
  | _ :: _, _, _, _, _, hk, ok => wpList_step fun _ hN => one_sound hT ok hk fun _ _ _ _ _ h1 h2 _ _ => hN _ _ (vcOps_sound hT hQ h1 h2)
end
end Sx
end Go.Proofs.Ytndlhhhebijknaa
