/-
  Texts of this claim, part 3: Sxn, Sxo. No condition of its own.
-/
import Derived.Test.YtnehmcpkeamghaaDoorG2
section
/-
  Operations in their regions. Over any program. No condition of its own.
-/
namespace Go.Proofs.YtnehmcpkeamghaaDoor
set_option linter.unusedVariables false
namespace Sx
open Go.RowKit

section
variable {C : Cx} {t : List SV} {h : List (List Seg)} {r : Rho} {a : Act} {w : World}
theorem isAs_snoc {l : List SA} {vs : List Value} {x : SA} {v : Value} (h : IsAs r l vs) (hx : x.Is r v) : IsAs r (l ++ [x]) (vs ++ [v]) := ⟨by simp [h.1], fun j y e => by
  rcases Nat.lt_trichotomy j l.length with hj | hj | hj
  · rw [List.getElem?_append_left hj] at e
    obtain ⟨u, e1, e2⟩ := h.2 j y e
    exact ⟨u, by rw [List.getElem?_append_left (by rw [← h.1]; exact hj)]; exact e1, e2⟩
  · subst hj
    simp at e
    subst e
    exact ⟨v, by rw [h.1]; simp, hx⟩
  · rw [List.getElem?_eq_none (by simp; omega)] at e; cases e⟩
theorem evs_spec (ok : Ok C ⟨t, h⟩ r a w) : ∀ {xs : List Operand} {K : List SA → Prop}, evs t xs K → ∃ l, K l ∧ IsAs r l (xs.map a.eval)
  | [], K, hk => ⟨[], hk, rfl, fun j x e => by simp at e⟩
  | x :: xs, K, hk => by
    have hv := ok.ev x
    have cons : ∀ {y : SA} {l : List SA}, SA.Is r y (a.eval x) → IsAs r l (xs.map a.eval) → IsAs r (y :: l) ((x :: xs).map a.eval) := by
      intro y l h1 h2
      refine ⟨by simpa using h2.1, fun j z e => ?_⟩
      cases j with
      | zero => simp at e; subst e; exact ⟨_, rfl, h1⟩
      | succ j => exact h2.2 j z e
    unfold evs at hk
    split at hk
    · rename_i y e
      simp only [e] at hv
      rw [frcSC_eq] at hk
      obtain ⟨l, h1, h2⟩ := evs_spec ok hk
      exact ⟨_, h1, cons hv h2⟩
    · rename_i g e
      simp only [e] at hv
      obtain ⟨l, h1, h2⟩ := evs_spec ok hk
      exact ⟨_, h1, cons hv h2⟩
    · exact hk.elim
theorem Ok.put {s : St} {r' : Rho} {w' : World} {h' : List (List Seg)} {x : SV} {v : Value} (ok : Ok C s r a w) (hr : RLe r r') (hh : HeapOk C h' r' w') (hx : x.Is r' v) (d : Nat) : Ok C ⟨s.t.set d x, h'⟩ r' (a.put (some d) v) w' := by
  refine ⟨hh, by simpa [Act.put] using ok.size, fun e y he => ?_, ok.defers⟩
  by_cases hde : d = e
  · subst hde
    simp only [List.getElem?_set_self'] at he
    cases hs : s.t[d]? with
    | none => rw [hs] at he; cases he
    | some z =>
      rw [hs] at he
      simp at he
      subst he
      have hd : d < a.tmps.size := by
        rw [ok.size]
        rcases Nat.lt_or_ge d s.t.length with h | h
        · exact h
        · rw [List.getElem?_eq_none h] at hs; cases hs
      simp only [Act.put]
      simpa [hd] using hx
  · rw [List.getElem?_set_ne hde] at he
    have := ok.slots e y he
    simp only [Act.put]
    rw [show (a.tmps.setIfInBounds d v).getD e undef = a.tmps.getD e undef by
      rw [Array.getD_eq_getD_getElem?, Array.getD_eq_getD_getElem?, Array.getElem?_setIfInBounds_ne hde]]
    exact this.mono hr
theorem Ok.keep {s : St} {r' : Rho} {w' : World} {h' : List (List Seg)} (ok : Ok C s r a w) (hr : RLe r r') (hh : HeapOk C h' r' w') : Ok C ⟨s.t, h'⟩ r' a w' :=
  ⟨hh, ok.size, fun e y he => (ok.slots e y he).mono hr, ok.defers⟩
theorem undef_is (r : Rho) : SV.Is r (.tup []) undef := ⟨[], rfl, rfl, fun j x e => by simp at e⟩
/-- From here on. -/
abbrev based (C : Cx) (h : List (List Seg)) (r : Rho) (w : World) : Cx := ⟨C.P, C.T, w, (r.drop C.ro).map (·.1), r, C.ro, C.live, fun B => ∃ (i : Nat) (W : World) (ms : List Nat), h[i]? = some [.past W ms] ∧ B < W.heap.size ∧ B ∉ ms⟩
theorem srcC_mono {C' : Cx} (hR : ∀ b l, RawAt C h b l → RawAt C' h b l) {sz : Nat} {x : SV} {K : Nat → (Nat → SC) → Prop} (hk : srcC C sz h x K) : srcC C' sz h x K := by
  unfold srcC at hk ⊢
  split at hk
  · exact hk
  · exact hk
  · obtain ⟨f, h1, h2⟩ := hk
    exact ⟨f, h1.imp id (hR _ _), h2⟩
  · exact hk
  · exact hk
  · exact hk.elim
theorem td_imp {C' : Cx} (hT : C'.T = C.T) {u : Nat} {K K' : TD → Prop} (hK : ∀ d, K d → K' d) (hk : td C u K) : td C' u K' := by
  unfold td at hk ⊢
  rw [hT]
  cases e : findT C.T u with
  | none => rw [e] at hk; exact hk.elim
  | some d => rw [e] at hk; exact hK _ hk
theorem stepC_mono {w1 : World} {m1 : List Nat} {r1 : Rho} {sf1 : Nat → Prop} (hR : ∀ b l, RawAt C h b l → RawAt ⟨C.P, C.T, w1, m1, r1, C.ro, C.live, sf1⟩ h b l) {op : Op} {k : SV → List (List Seg) → Prop} (hk : stepC C op t h k) : stepC ⟨C.P, C.T, w1, m1, r1, C.ro, C.live, sf1⟩ op t h k := by
  cases op <;> try exact hk
  case next x s =>
    cases s
    · exact (show False from hk).elim
    · exact hk
  rename_i c
  obtain ⟨f, args, ts⟩ := c
  cases f <;> try exact hk
  rename_i b
  cases b <;> try exact hk
  · have hk : appS C t h args.toList ts.toList k := hk
    show appS _ t h args.toList ts.toList k
    unfold appS at hk ⊢
    split at hk <;> try exact hk.elim
    refine td_imp (C := C) (C' := ⟨C.P, C.T, w1, m1, r1, C.ro, C.live, sf1⟩) rfl (fun d hk => ?_) hk
    cases hd : d.k <;> simp only [hd] at hk ⊢
    refine td_imp (C := C) (C' := ⟨C.P, C.T, w1, m1, r1, C.ro, C.live, sf1⟩) rfl (fun de hk => ?_) hk
    refine td_imp (C := C) (C' := ⟨C.P, C.T, w1, m1, r1, C.ro, C.live, sf1⟩) rfl (fun d2 hk => ?_) hk
    cases h1 : isIntK d2.k <;> cases h2 : de.size <;> cases h3 : de.bytes <;> simp only [h1, h2, h3] at hk ⊢
    exact srcC_mono (C := C) hR hk
  · have hk : cpS C t h args.toList ts.toList k := hk
    show cpS _ t h args.toList ts.toList k
    unfold cpS at hk ⊢
    split at hk <;> try exact hk.elim
    refine td_imp (C := C) (C' := ⟨C.P, C.T, w1, m1, r1, C.ro, C.live, sf1⟩) rfl (fun d hk => ?_) hk
    cases hd : d.k <;> simp only [hd] at hk ⊢
    refine td_imp (C := C) (C' := ⟨C.P, C.T, w1, m1, r1, C.ro, C.live, sf1⟩) rfl (fun de hk => ?_) hk
    split at hk <;> try exact hk.elim
    exact srcC_mono (C := C) hR hk
theorem mem_drop {r : Rho} {n B : Nat} : B ∈ (r.drop n).map (·.1) ↔ ∃ i f, n ≤ i ∧ r[i]? = some (B, f) := by
  constructor
  · intro h
    obtain ⟨⟨B', f⟩, hx, rfl⟩ := List.mem_map.1 h
    obtain ⟨i, hi, e⟩ := List.mem_iff_getElem.1 hx
    have e' : (r.drop n)[i]? = some (B', f) := by rw [List.getElem?_eq_getElem hi, e]
    rw [List.getElem?_drop] at e'
    exact ⟨n + i, f, by omega, e'⟩
  · rintro ⟨i, f, hi, e⟩
    refine List.mem_map.2 ⟨(B, f), List.mem_of_getElem? (i := i - n) ?_, rfl⟩
    rw [List.getElem?_drop, show n + (i - n) = i by omega, e]
theorem HeapOk.mem (ok : HeapOk C h r w) {B : Nat} (hB : B ∈ (r.drop C.ro).map (·.1)) : B ∈ C.m ∨ C.w0.heap.size ≤ B := by
  obtain ⟨i, f, hi, e⟩ := mem_drop.1 hB
  exact ok.own i _ _ hi e
theorem HeapOk.based (ok : HeapOk C h r w) : HeapOk (Sx.based C h r w) h r w :=
  ⟨Ext.refl _ _, RLe.refl _, Nat.le_trans ok.rol ok.rlen, ok.len, ok.chunks, ok.lt, fun i B f ho h => .inl (mem_drop.2 ⟨i, f, ho, h⟩), fun i B f ho hl hr => by
    obtain ⟨a1, a2⟩ := ok.ros i B f ho hl hr
    refine ⟨fun hc => ?_, Nat.lt_of_lt_of_le a2 ok.ext.size⟩
    rcases ok.mem hc with h | h
    · exact a1 h
    · omega, ok.dead, ok.apart, ok.maps, fun i W ms hi => ⟨(ok.past i W ms hi).1, fun B _ h2 h3 => ⟨i, W, ms, hi, h2, h3⟩, (ok.past i W ms hi).2.2⟩⟩
theorem HeapOk.unbase {h' : List (List Seg)} {r' : Rho} {w' : World} (ok : HeapOk C h r w) (k : HeapOk (Sx.based C h r w) h' r' w') : HeapOk C h' r' w' :=
  ⟨ok.ext.trans2 k.ext (fun i hi => ok.mem hi), ok.agree.trans k.agree, ok.rol, k.len, k.chunks, k.lt, fun i B f ho hr => by
    rcases k.own i B f ho hr with h1 | h1
    · exact ok.mem h1
    · exact .inr (Nat.le_trans ok.ext.size h1), fun i B f ho hl hr => by
    have hir : i < r.length := by have := ok.rol; have := ok.rlen; omega
    have e := k.agree i _ (List.getElem?_eq_getElem hir)
    rw [hr] at e
    injection e with e
    exact ok.ros i B f ho hl (by rw [List.getElem?_eq_getElem hir, ← e]), k.dead, k.apart, k.maps, fun i W ms hi => by
    obtain ⟨p1, p2, p3⟩ := k.past i W ms hi
    refine ⟨p1, fun B h1 h2 h3 => ?_, p3⟩
    obtain ⟨j, W', ms', e, g1, g2⟩ := p2 B (Nat.lt_of_lt_of_le h1 ok.ext.size) h2 h3
    exact (ok.past j W' ms' e).2.1 B h1 g1 g2⟩
theorem HeapOk.raw (ok : HeapOk C h r w) (b : Addr) (l : List SC) (hr : RawAt C h b l) : RawAt (Sx.based C h r w) h b l := by
  rcases hr with ⟨h1, h2, h3, h4⟩ | hr
  rotate_left
  · exact .inr hr
  refine .inl ⟨h1, Nat.lt_of_lt_of_le h2 ok.ext.size, fun hc => ?_, fun j x e => ?_⟩
  · rcases ok.mem hc with h | h
    · exact h3 h
    · omega
  · obtain ⟨v, e1, e2⟩ := h4 j x e
    exact ⟨v, ok.ext.cell (p := ⟨b.block, b.off + j, none⟩) h3 e1, e2⟩
theorem Near.refl (ok : HeapOk C h r w) (l : List Nat) : Near C h r l w w := ⟨ok.ext, fun _ _ _ _ _ _ _ => rfl, fun i W ms e => (ok.past i W ms e).1⟩
theorem Stand.of_quiet {q : Keep} {w' : World} (ok : HeapOk C h r w) (e : Ext [] w w') : Stand C q h r w w' := by
  cases q with
  | free => trivial
  | all => exact e
  | only l => exact ⟨ok.ext.quiet e, fun i _ _ B f hr hB => e.block B hB (by simp), fun i W ms e' => (ok.past i W ms e').1.quiet e⟩
theorem Frm.of (ok : HeapOk C h r w) {q : Keep} {h' : List (List Seg)} {r' : Rho} {w' : World} (k : HeapOk (based C h r w) h' r' w') (e : q.binds = true → Ext [] w w') (kk : q.binds = true → Keeps h h') : Frm C q h r w h' r' w' :=
  ⟨k.ext, k.own, by
    cases q with
    | free => trivial
    | all => exact e rfl
    | only l => exact Stand.of_quiet (q := .only l) ok (e rfl), kk, fun i W ms hi => (k.past i W ms hi).2.1⟩
theorem Frm.refl (ok : HeapOk C h r w) (q : Keep) : Frm C q h r w h r w :=
  ⟨Ext.refl _ _, fun i B f ho h => .inl (mem_drop.2 ⟨i, f, ho, h⟩), Stand.of_quiet ok (Ext.refl _ _), fun _ => Keeps.refl _, fun i W ms hi B _ h2 h3 => ⟨i, W, ms, hi, h2, h3⟩⟩
theorem getH_some {i : Nat} (h1 : getH h i ≠ []) : h[i]? = some (getH h i) := by
  rw [getH_eq] at h1 ⊢
  cases e : h[i]? with
  | none => rw [e] at h1; exact absurd rfl h1
  | some c => rfl
theorem aptN_spec {h : List (List Seg)} {i : Nat} : ∀ {l : List Nat}, aptN h i l = true → ∀ j ∈ l, j < h.length → j ≠ i ∧ getH h j ≠ []
  | [], _, j, hj, _ => by cases hj
  | x :: l, hh, j, hj, hl => by
    simp only [aptN, Bool.and_eq_true] at hh
    cases hj with
    | tail _ hj => exact aptN_spec hh.2 j hj hl
    | head =>
      have h1 := hh.1
      split at h1
      · simp only [Bool.and_eq_true, Bool.not_eq_true'] at h1
        refine ⟨fun hc => ?_, fun e => ?_⟩
        · subst hc
          have := h1.1
          rw [Nat.beq_refl] at this
          cases this
        · rw [e] at h1
          exact absurd h1.2 (by simp)
      · rename_i hb
        have := Nat.ble_eq_true_of_le hl
        rw [show (Nat.succ _).ble h.length = Nat.blt _ h.length from rfl] at this
        rw [this] at hb
        cases hb
/-- A slice's memory is marked as a constant's. -/
def marked (w : World) (B : Nat) : World := match w.shape? B with
  | some (_, n) => w.freeze ⟨B, n, none⟩ 1
  | none => w
theorem marked_ne (w : World) {B k : Nat} (h : k ≠ B) : (marked w B).heap[k]? = w.heap[k]? := by
  unfold marked
  split
  · unfold World.freeze
    rw [if_neg (by decide)]
    simp only [Array.getElem?_modify, if_neg (Ne.symm h)]
  · rfl
theorem marked_size (w : World) (B : Nat) : (marked w B).heap.size = w.heap.size := by
  unfold marked
  split
  · unfold World.freeze
    rw [if_neg (by decide)]
    simp
  · rfl
theorem marked_at (w : World) (B : Nat) {c : Array Value} {t : TypeId} {lo hi : Nat} (h : w.heap[B]? = some (.cells c t (lo, hi))) :
    (marked w B).heap[B]? = some (.cells c t (if lo == hi then (c.size, c.size + 1) else (min lo c.size, max hi (c.size + 1)))) := by
  have hs : w.shape? B = some (t, c.size) := by unfold World.shape?; rw [h]
  unfold marked
  rw [hs]
  simp only
  unfold World.freeze
  rw [if_neg (by decide)]
  simp [Array.getElem?_modify, h]
theorem marked_none (w : World) (B : Nat) (h : ∀ c t z, w.heap[B]? ≠ some (.cells c t z)) : marked w B = w := by
  unfold marked World.shape?
  cases e : w.heap[B]? with
  | none => rfl
  | some x =>
    cases x with
    | cells c t z => exact absurd e (h c t z)
    | _ => rfl
theorem marked_cases (w : World) (B : Nat) : marked w B = w ∨ ∃ c t lo hi, w.heap[B]? = some (.cells c t (lo, hi)) := by
  by_cases h : ∃ c t z, w.heap[B]? = some (.cells c t z)
  · obtain ⟨c, t, ⟨lo, hi⟩, e⟩ := h
    exact .inr ⟨c, t, lo, hi, e⟩
  · exact .inl (marked_none w B fun c t z e => h ⟨c, t, z, e⟩)
theorem marked_cell (w : World) (B : Nat) (a : Addr) : (marked w B).cell? a = w.cell? a := by
  by_cases hb : a.block = B
  · rcases marked_cases w B with e | ⟨c, t, lo, hi, e⟩
    · rw [e]
    · unfold World.cell?
      rw [hb, marked_at w B e, e]
  · unfold World.cell?
    rw [marked_ne w hb]
theorem Clean.marked (hm : marksOk = true) {w : World} {B k : Nat} (h : Clean w k) : Clean (marked w B) k := by
  by_cases hk : k = B
  · subst hk
    rcases marked_cases w k with e | ⟨c, t, lo, hi, e⟩
    · rw [e]; exact h
    · intro c' t' lo' hi' e'
      rw [marked_at w k e] at e'
      injection e' with e'
      injection e' with e1 e2 e3
      subst e1
      refine .inr ⟨hm, ?_⟩
      split at e3
      · injection e3 with e4 e5; omega
      · rename_i hne
        injection e3 with e4 e5
        have hne : lo ≠ hi := by simpa using hne
        rcases h c t lo hi e with h1 | ⟨_, h1⟩
        · exact absurd h1 hne
        · omega
  · exact h.block (marked_ne w hk)
theorem ext_marked {m : List Nat} {w w' : World} {B : Nat} (e : Ext m w w') (h : B ∈ m ∨ w.heap.size ≤ B) : Ext m w (marked w' B) :=
  ⟨by unfold Sx.marked; split <;> (try unfold World.freeze) <;> exact e.os, by unfold Sx.marked; split <;> (try unfold World.freeze) <;> exact e.tape, by unfold Sx.marked; split <;> (try unfold World.freeze) <;> exact e.output, by rw [marked_size]; exact e.size, fun k hk hm => by
    rw [marked_ne w' (fun hc => by subst hc; rcases h with h | h; exact hm h; omega)]
    exact e.block k hk hm⟩
theorem ObjAt.marked {B : Nat} {m : MapD} (h : ObjAt w B m) (B2 : Nat) : ObjAt (Sx.marked w B2) B m := by
  by_cases hB : B = B2
  · subst hB
    obtain ⟨o, e1, e2⟩ := h.obj
    have : w.shape? B = none := by
      unfold World.shape?
      rw [e1]
      cases o <;> first | rfl | exact absurd rfl (e2 _ _ _)
    unfold Sx.marked
    rw [this]
    exact h
  · exact h.block (marked_ne w hB)
theorem HeapOk.marked (hm : marksOk = true) (ok : HeapOk C h r w) {i B f : Nat} (hr : r[i]? = some (B, f)) (hro : C.ro ≤ i) : HeapOk C h r (Sx.marked w B) :=
  ⟨ext_marked ok.ext (ok.own i B f hro hr), ok.agree, ok.rol, ok.len, fun j ch B' f' hj hrj q x e => by
    obtain ⟨v, e1, e2, e3⟩ := ok.chunks j ch B' f' hj hrj q x e
    exact ⟨v, by rw [marked_cell]; exact e1, e2, fun hz => (e3 hz).marked hm⟩, fun j B' f' ho hrj => by rw [marked_size]; exact ok.lt j B' f' ho hrj, ok.own, ok.ros, ok.dead, ok.apart, fun j m B' f' ho hj hrj => (ok.maps j m B' f' ho hj hrj).marked B, fun j W ms hj => by
    obtain ⟨p1, p2, p3⟩ := ok.past j W ms hj
    refine ⟨ext_marked p1 ?_, p2, p3⟩
    rcases Nat.lt_or_ge B W.heap.size with h | h
    · exact .inl (p3 i B f hro hr h)
    · exact .inr h⟩
theorem run_mark {P : Program} (w : World) (t e : TypeId) (B o n c : Nat) (ht : P.underlying t = some (.slice e)) (he : P.underlying e = some (.int .u8)) :
    (convert t t (.slice (some ⟨B, o, none⟩) n c)).run P w = .ok (.slice (some ⟨B, o, none⟩) n c) (Sx.marked w B) := by
  unfold Sx.marked
  cases hs : w.shape? B with
  | none => simp [convert, run_underlying ht, run_underlying he, markStringish, hs]
  | some x => simp [convert, run_underlying ht, run_underlying he, markStringish, hs]
/-- One operation that runs. -/
theorem step_sound {o : Oper} {q : Keep} {k : SV → List (List Seg) → Prop} (hT : AllT C.P C.T) (ok : Ok C ⟨t, h⟩ r a w) (hk : step C q o t h k) {next : Act → World → Prop} {Q : Exit → Act → World → Prop}
    (hn : ∀ v x h' r' w', x.Is r' v → RLe r r' → HeapOk C h' r' w' → Frm C q h r w h' r' w' → k x h' → next (a.put o.dst v) w') : o.wp C.P a w next Q := by
  unfold step at hk
  have okB : Ok (based C h r w) ⟨t, h⟩ r a w := ⟨ok.heap.based, ok.size, ok.slots, ok.defers⟩
  split at hk
  · split at hk
    · split at hk
      · rename_i hnil
        obtain ⟨v, x, h', r', w', h1, h2, h3, h4', ⟨m, hext, hm⟩, hkp, h6⟩ := stepC_sound (C := (based C h r w)) hT okB (stepC_mono ok.heap.raw hk)
        have h4 := ok.heap.unbase h4'
        have hx : Frm C q h r w h' r' w' := Frm.of ok.heap h4' (fun _ => ⟨hext.os, hext.tape, hext.output, hext.size, fun B hB _ => hext.block B hB fun hBm => by
          obtain ⟨y, ht, hb⟩ := hm B hBm
          unfold tgtNil at hnil
          rw [ht] at hnil
          have hv := ok.ev y
          simp only at hnil
          split at hnil
          · rename_i n' c' e
            simp only [e] at hv
            rw [show a.eval y = _ from hv] at hb
            cases hb
          · cases hnil⟩) (fun _ => hkp)
        unfold Oper.wp
        rcases h6 o rfl with e | ⟨e, rfl⟩
        · rw [e]; exact hn v x h' r' w' h2 h3 h4 hx h1
        · rw [e]; exact hn undef x h' r' w' h2 h3 h4 hx h1
      split at hk <;> try exact hk.elim
      rename_i l i0 htg _
      split at hk <;> try exact hk.elim
      rename_i hok
      obtain ⟨v, x, h', r', w', h1, h2, h3, h4', ⟨m, hext, hm⟩, hkp, h6⟩ := stepC_sound (C := (based C h r w)) hT okB (stepC_mono ok.heap.raw hk)
      have h4 := ok.heap.unbase h4'
      have hx : Frm C (.only l) h r w h' r' w' := ⟨h4'.ext, h4'.own, ⟨h4.ext, fun i hi ho B f hr hB => hext.block B hB fun hBm => by
        obtain ⟨y, ht, hb⟩ := hm B hBm
        simp only [tgtOk, Bool.and_eq_true] at hok
        obtain ⟨⟨o1, o2⟩, o3⟩ := hok
        have hne0 : getH h i0 ≠ [] := fun e => by rw [e] at o2; cases o2
        have hil : i < h.length := by
          rw [← ok.heap.len]
          rcases Nat.lt_or_ge i r.length with h | h
          · exact h
          · rw [List.getElem?_eq_none h] at hr; cases hr
        obtain ⟨hij, hne⟩ := aptN_spec o3 i hi hil
        have h0 : ∃ f0, r[i0]? = some (B, f0) := by
          unfold tgtN at htg
          rw [ht] at htg
          have hv := ok.ev y
          simp only at htg
          split at htg
          · rename_i j b' o' e
            simp only [e] at hv
            obtain ⟨B', f', hr', hv⟩ := hv
            injection htg with htg
            subst htg
            rw [show a.eval y = _ from hv] at hb
            injection hb with hb
            subst hb
            exact ⟨f', hr'⟩
          · rename_i j b' o' n' c' e
            simp only [e] at hv
            obtain ⟨B', f', hr', hv⟩ := hv
            injection htg with htg
            subst htg
            rw [show a.eval y = _ from hv] at hb
            injection hb with hb
            subst hb
            exact ⟨f', hr'⟩
          · rename_i j e
            simp only [e] at hv
            obtain ⟨B', f', hr', hv⟩ := hv
            injection htg with htg
            subst htg
            rw [show a.eval y = _ from hv] at hb
            injection hb with hb
            subst hb
            exact ⟨f', hr'⟩
          · rename_i j e
            simp only [e] at hv
            obtain ⟨B', f', hr', hv⟩ := hv
            injection htg with htg
            subst htg
            rw [show a.eval y = _ from hv] at hb
            injection hb with hb
            subst hb
            exact ⟨f', hr'⟩
          · cases htg
        obtain ⟨f0, hr0⟩ := h0
        have g1 : h[i]? = some (getH h i) := getH_some hne
        have g0 : h[i0]? = some (getH h i0) := getH_some hne0
        rcases ok.heap.apart i i0 B f f0 _ _ hij ho (ble_le o1) g1 g0 hr hr0 with h | h
        · exact hne h
        · exact hne0 h, fun i W ms e => let ⟨_, _, e2, hl⟩ := hkp i W ms e; hl.ext (h4.past i _ _ e2).1⟩, fun _ => hkp, fun i W ms hi => (h4'.past i W ms hi).2.1⟩
      unfold Oper.wp
      rcases h6 o rfl with e | ⟨e, rfl⟩
      · rw [e]; exact hn v x h' r' w' h2 h3 h4 hx h1
      · rw [e]; exact hn undef x h' r' w' h2 h3 h4 hx h1
    · rename_i hq
      obtain ⟨v, x, h', r', w', h1, h2, h3, h4', h5, hkp, h6⟩ := stepC_sound (C := (based C h r w)) hT okB (stepC_mono ok.heap.raw hk)
      have h4 := ok.heap.unbase h4'
      have hx : Frm C q h r w h' r' w' := Frm.of ok.heap h4' (fun e => h5.quiet (by rw [e] at hq; simpa using hq)) (fun _ => hkp)
      unfold Oper.wp
      rcases h6 o rfl with e | ⟨e, rfl⟩
      · rw [e]; exact hn v x h' r' w' h2 h3 h4 hx h1
      · rw [e]; exact hn undef x h' r' w' h2 h3 h4 hx h1
  · rename_i hch
    have read : stepR C o.op t h (fun x => k x h) → o.wp C.P a w next Q := by
      intro hk
      obtain ⟨v, x, h1, h2, h3⟩ := stepR_sound hT ok hk
      unfold Oper.wp
      rw [h3 o w rfl (fun _ => Near.refl ok.heap _)]
      exact hn v x h r w h2 (RLe.refl _) ok.heap (Frm.refl ok.heap q) h1
    split at hk
    · rename_i f args ts hop
      have enter : ∀ {g : FuncId} {first cap : Array Value}, a.eval f = .func (.func g) first cap → callable C.P g = true → (execOp a.eval o).run C.P w = .ok (.enter g (first ++ (args.toList.map a.eval).toArray ++ cap)) w := by
        intro g first cap hv hc
        obtain ⟨fn, hfn, hb⟩ : ∃ fn, C.P.funcs[g]? = some fn ∧ (fn.body.isSome && fn.name != "runtime.NumGoroutine") = true := by
          unfold callable at hc
          cases e : C.P.funcs[g]? with
          | none => rw [e] at hc; cases hc
          | some fn => rw [e] at hc; exact ⟨fn, rfl, hc⟩
        simp only [Bool.and_eq_true, bne_iff_ne] at hb
        simp only [execOp, hop, resolve, hv, Deferred.ofValue, Sem.run_bind, Sem.run_pure, Result.andThen_ok, invoke, callFunc, run_program, hfn]
        have h1 : (fn.name == "runtime.NumGoroutine") = false := by simpa using hb.2
        have h2 : fn.body.isNone = false := by
          cases e : fn.body with
          | none => rw [e] at hb; exact absurd hb.1 (by simp)
          | some b => rfl
        simp only [h1, h2, Bool.false_eq_true, if_false]
        have h3 : args.map a.eval = (args.toList.map a.eval).toArray := by rw [← Array.toList_map]
        rw [h3]; rfl
      split at hk <;> try exact hk.elim
      · rename_i g first cap hf
        obtain ⟨hc, hk⟩ := hk
        obtain ⟨l, hk, hl⟩ := evs_spec ok hk
        have hv := ok.ev f
        simp only [hf] at hv
        have hv : a.eval f = .func (.func g) first cap := hv
        have hcall := hk r a w _ ok hl
        unfold Oper.wp
        rw [enter hv hc]
        refine hcall.mono ?_
        rintro e' w' ⟨v, x, h', r', rfl, h1, h2, h3, h4, h5⟩
        exact hn v x h' r' w' h1 h2 h3 h4 h5
      · rename_i g i b' o' hf
        obtain ⟨hc, hk⟩ := hk
        obtain ⟨l, hk, hl⟩ := evs_spec ok hk
        have hv := ok.ev f
        simp only [hf] at hv
        obtain ⟨B, f', hr, hv⟩ := hv
        have hcall := hk r a w (.pointer (some ⟨B, f' + (b' + o'), none⟩) :: args.toList.map a.eval) ok ⟨by simpa using hl.1, fun j x e => by
          cases j with
          | zero => simp at e; subst e; exact ⟨_, rfl, B, f', hr, rfl⟩
          | succ j => exact hl.2 j x e⟩
        have hargs : (#[] : Array Value) ++ (Value.pointer (some ⟨B, f' + (b' + o'), none⟩) :: args.toList.map a.eval).toArray ++ #[] = #[.pointer (some ⟨B, f' + (b' + o'), none⟩)] ++ (args.toList.map a.eval).toArray ++ #[] := by simp
        rw [hargs] at hcall
        unfold Oper.wp
        rw [enter hv hc]
        refine hcall.mono ?_
        rintro e' w' ⟨v, x, h', r', rfl, h1, h2, h3, h4, h5⟩
        exact hn v x h' r' w' h1 h2 h3 h4 h5
      · rename_i g i b' o' hf
        obtain ⟨hc, hk⟩ := hk
        obtain ⟨l, hk, hl⟩ := evs_spec ok hk
        rw [snocL_eq] at hk
        have hv := ok.ev f
        simp only [hf] at hv
        obtain ⟨B, f', hr, hv⟩ := hv
        have hcall := hk r a w (args.toList.map a.eval ++ [.pointer (some ⟨B, f' + (b' + o'), none⟩)]) ok (isAs_snoc hl ⟨B, f', hr, rfl⟩)
        have hargs : (#[] : Array Value) ++ (args.toList.map a.eval ++ [Value.pointer (some ⟨B, f' + (b' + o'), none⟩)]).toArray ++ #[] = #[] ++ (args.toList.map a.eval).toArray ++ #[.pointer (some ⟨B, f' + (b' + o'), none⟩)] := by simp
        rw [hargs] at hcall
        unfold Oper.wp
        rw [enter hv hc]
        refine hcall.mono ?_
        rintro e' w' ⟨v, x, h', r', rfl, h1, h2, h3, h4, h5⟩
        exact hn v x h' r' w' h1 h2 h3 h4 h5
      · rename_i g i b' o' j c' p' hf
        obtain ⟨hc, hk⟩ := hk
        obtain ⟨l, hk, hl⟩ := evs_spec ok hk
        rw [snocL_eq, snocL_eq] at hk
        have hv := ok.ev f
        simp only [hf] at hv
        obtain ⟨B, f', hr, B2, f2, hr2, hv⟩ := hv
        have hcall := hk r a w ((args.toList.map a.eval ++ [.pointer (some ⟨B, f' + (b' + o'), none⟩)]) ++ [.pointer (some ⟨B2, f2 + (c' + p'), none⟩)]) ok (isAs_snoc (isAs_snoc hl ⟨B, f', hr, rfl⟩) ⟨B2, f2, hr2, rfl⟩)
        have hargs : (#[] : Array Value) ++ ((args.toList.map a.eval ++ [Value.pointer (some ⟨B, f' + (b' + o'), none⟩)]) ++ [Value.pointer (some ⟨B2, f2 + (c' + p'), none⟩)]).toArray ++ #[] = #[] ++ (args.toList.map a.eval).toArray ++ #[.pointer (some ⟨B, f' + (b' + o'), none⟩), .pointer (some ⟨B2, f2 + (c' + p'), none⟩)] := by simp
        rw [hargs] at hcall
        unfold Oper.wp
        rw [enter hv hc]
        refine hcall.mono ?_
        rintro e' w' ⟨v, x, h', r', rfl, h1, h2, h3, h4, h5⟩
        exact hn v x h' r' w' h1 h2 h3 h4 h5
    · rename_i u v' y hop
      obtain ⟨du, hu, hk⟩ := td_spec hT hk
      obtain ⟨dv, hv, hk⟩ := td_spec hT hk
      split at hk
      · obtain ⟨v, x, h', r', w', h1, h2, h3, h4', h5, hkp, h6⟩ := stepC_sound (C := (based C h r w)) hT okB (stepC_mono ok.heap.raw hk)
        have h4 := ok.heap.unbase h4'
        have hx : Frm C q h r w h' r' w' := Frm.of ok.heap h4' (fun _ => h5.quiet rfl) (fun _ => hkp)
        unfold Oper.wp
        rcases h6 o hop with e | ⟨e, rfl⟩
        · rw [e]; exact hn v x h' r' w' h2 h3 h4 hx h1
        · rw [e]; exact hn undef x h' r' w' h2 h3 h4 hx h1
      · rename_i e1 e ek1 ek2
        split at hk <;> try exact hk.elim
        obtain ⟨de, hde, hk⟩ := td_spec hT hk
        split at hk <;> try exact hk.elim
        rename_i i b o' n c ek3 huv hx
        split at hk <;> try exact hk.elim
        all_goals
          rename_i hro _ hmk
          have hk9 := hk
          clear hk
          obtain rfl : u = v' := Nat.eq_of_beq_eq_true huv
          have k1 := hu.kind
          have k2 := hde.kind
          have k3 := hv.kind
          rw [ek2] at k3
          rw [ek3] at k2
          simp only [TK.Ok] at k2 k3
          have hev := ok.ev y
          simp only [hx] at hev
          obtain ⟨B, f, hr, hev⟩ := hev
          have h4' := HeapOk.marked hmk ok.heap.based hr (ble_le hro)
          unfold Oper.wp
          have hrun := run_mark (P := C.P) w u _ B (f + (b + o')) n c k3 k2
          have : (execOp a.eval o).run C.P w = .ok (.value (.slice (some ⟨B, f + (b + o'), none⟩) n c)) (Sx.marked w B) := by
            simp only [execOp, hop]
            rw [show a.eval y = _ from hev]
            exact exec_v hrun
          rw [this]
          exact hn _ (.a (.c (.sl i b o' n c))) h r _ ⟨B, f, hr, rfl⟩ (RLe.refl _) (ok.heap.unbase h4') (Frm.of ok.heap h4' (fun hc => Bool.noConfusion hc) (fun _ => Keeps.refl _)) hk9
      · exact read (by rw [hop]; exact hk)
    · exact read hk
/-- Whether it runs. -/
theorem guard_spec {ops : Array Oper} {o : Oper} {yes no : Prop} (ok : Ok C ⟨t, h⟩ r a w) (hk : guard ops o t yes no) :
    (Region.wanted o (yielded ops a.tmps) = true ∧ yes) ∨ (Region.wanted o (yielded ops a.tmps) = false ∧ no) := by
  unfold guard at hk
  split at hk
  · rename_i hg
    exact .inl ⟨by simp [Region.wanted, hg], hk⟩
  · rename_i j want hg
    split at hk <;> try exact hk.elim
    rename_i d hd
    have hs := ok.get d
    have ey : ∀ (b : Bool), a.tmps.getD d undef = .bool b → yielded ops a.tmps j = some b := by
      intro b hb
      unfold dstOf at hd
      have : a.tmps[d]? = some (.bool b) := by
        rw [Array.getD_eq_getD_getElem?] at hb
        cases e : a.tmps[d]? with
        | none => rw [e] at hb; cases hb
        | some v => rw [e] at hb; simp at hb; rw [hb]
      simp only [yielded, hd, Option.bind_some, this]
    split at hk <;> try exact hk.elim
    · rename_i b e
      simp only [e] at hs
      have hy := ey b hs
      cases want <;> cases b <;> simp only [Region.wanted, hg, hy] <;> simp at hk ⊢ <;> exact hk
    · rename_i e
      simp only [e] at hs
      obtain ⟨vs, e1, e2, _⟩ := hs
      have : vs = [] := List.eq_nil_of_length_eq_zero e2.symm
      subst this
      refine .inr ⟨?_, hk⟩
      have : yielded ops a.tmps j = none := by
        unfold dstOf at hd
        simp only [yielded, hd, Option.bind_some]
        rw [Array.getD_eq_getD_getElem?] at e1
        cases e : a.tmps[d]? with
        | none => rfl
        | some v => rw [e] at e1; simp at e1; subst e1; rfl
      simp [Region.wanted, hg, this]
/-- A slot's new content. -/
def putT (d : Option Tmp) (x : SV) (t : List SV) : List SV := match d with
  | some d => t.set d x
  | none => t
theorem putD_eq {d : Option Tmp} {x : SV} {t : List SV} {K : List SV → Prop} (hk : putD d x t K) : K (putT d x t) := by
  unfold putD at hk
  split at hk
  · rw [frcV_eq, setT_eq] at hk; exact hk
  · exact hk
theorem Ok.putT {s : St} {r' : Rho} {w' : World} {h' : List (List Seg)} {x : SV} {v : Value} (ok : Ok C s r a w) (hr : RLe r r') (hh : HeapOk C h' r' w') (hx : x.Is r' v) (d : Option Tmp) : Ok C ⟨Sx.putT d x s.t, h'⟩ r' (a.put d v) w' := by
  cases d with
  | none => exact ok.keep hr hh
  | some d => exact ok.put hr hh hx d
/-- One operation, whether it runs or not. -/
theorem one_sound {ops : Array Oper} {o : Oper} {q : Keep} {s : St} {K : St → Prop} (hT : AllT C.P C.T) (ok : Ok C s r a w) (hk : one C q ops o s K) {next : Act → World → Prop} {Q : Exit → Act → World → Prop}
    (hn : ∀ x v h' r' w', K ⟨putT o.dst x s.t, h'⟩ → Ok C ⟨putT o.dst x s.t, h'⟩ r' (a.put o.dst v) w' → RLe r r' → Frm C q s.h r w h' r' w' → next (a.put o.dst v) w') :
    if Region.wanted o (yielded ops a.tmps) then o.wp C.P a w next Q else next (a.put o.dst undef) w := by
  obtain ⟨t, h⟩ := s
  unfold one at hk
  rcases guard_spec ok hk with ⟨hw, hk⟩ | ⟨hw, hk⟩
  · rw [if_pos hw]
    refine step_sound hT ok hk ?_
    intro v x h' r' w' hx hr hh hq hk
    exact hn x v h' r' w' (putD_eq hk) (ok.putT hr hh hx _) hr hq
  · rw [if_neg (by simp [hw])]
    exact hn _ _ _ _ _ (putD_eq hk) (ok.putT (RLe.refl _) ok.heap (undef_is r) _) (RLe.refl _) (Frm.refl ok.heap q)
/-- One operation that reads. -/
theorem one_read {ops : Array Oper} {o : Oper} {s : St} {K : St → Prop} (hT : AllT C.P C.T) (ok : Ok C s r a w) (hk : oneR C ops o s K) :
    ∃ v x, K ⟨putT o.dst x s.t, s.h⟩ ∧ Ok C ⟨putT o.dst x s.t, s.h⟩ r (a.put o.dst v) w ∧ YieldsIf C.P ops (fun w' => pureOp o.op = false → Near C s.h r (seen s.t o.op) w w') o v a := by
  obtain ⟨t, h⟩ := s
  unfold oneR at hk
  rcases guard_spec ok hk with ⟨hw, hk⟩ | ⟨hw, hk⟩
  · obtain ⟨v, x, h1, h2, h3⟩ := stepR_sound hT ok hk
    exact ⟨v, x, putD_eq h1, ok.putT (RLe.refl _) ok.heap h2 _, .inl ⟨hw, fun w' hx => h3 o w' rfl hx⟩⟩
  · exact ⟨undef, _, putD_eq hk, ok.putT (RLe.refl _) ok.heap (undef_is r) _, .inr ⟨hw, rfl⟩⟩
/-- Operations in the text's order. -/
theorem vcOps_sound {ops : Array Oper} {K : St → Prop} {Q : Exit → Act → World → Prop} (hT : AllT C.P C.T) (hQ : ∀ s' r' a' w', K s' → Ok C s' r' a' w' → Q .normal a' w') :
    ∀ {l : List Oper} {s : St} {r : Rho} {a : Act} {w : World}, vcOps C ops l s K → Ok C s r a w → wpList C.P ops Q l a w
  | [], _, _, _, _, hk, ok => hQ _ _ _ _ hk ok
  | _ :: _, _, _, _, _, hk, ok => wpList_step fun _ hN => one_sound hT ok hk fun _ _ _ _ _ h1 h2 _ _ => hN _ _ (vcOps_sound hT hQ h1 h2)
end
end Sx
end Go.Proofs.YtnehmcpkeamghaaDoor
end

section
/-
  Regions that draw their order, and whole bodies. Over any program. No condition of its own.
-/
namespace Go.Proofs.YtnehmcpkeamghaaDoor
set_option linter.unusedVariables false
namespace Sx
open Go.RowKit

section
variable {C : Cx} {ops : Array Oper} {Q : Exit → Act → World → Prop}
/-- Panics don't ask for slots. -/
def PanicOk (Q : Exit → Act → World → Prop) : Prop := ∀ c (a : Act) (d : Option Tmp) (v : Value) w, Q (.panic c) (a.put d v) w → Q (.panic c) a w
theorem wpOp_of {i : Nat} {o : Oper} (ho : ops[i]? = some o) {K : Act → World → Prop} {a : Act} {w : World} (h : if Region.wanted o (yielded ops a.tmps) then o.wp C.P a w K Q else K (a.put o.dst undef) w) : wpOp C.P ops Q i K a w := by
  unfold wpOp
  simp only [ho]
  split
  · rename_i hw; rw [if_pos hw] at h; exact .inl h
  · rename_i hw; rw [if_neg hw] at h; exact h
theorem planB_sound {K : St → Prop} (hT : AllT C.P C.T) (hQ : ∀ s' r' a' w', K s' → Ok C s' r' a' w' → Q .normal a' w') :
    ∀ {B : List Nat} {l : Array Bool} {s : St} {r : Rho} {a : Act} {w : World}, planB ops B l = true → vcB C ops B s K → Ok C s r a w → wpAny C.P .any ops Q B.length l a w
  | [], l, s, r, a, w, hp, hk, ok => ⟨by simpa [planB] using hp, hQ _ _ _ _ hk ok⟩
  | i :: B, l, s, r, a, w, hp, hk, ok => by
    simp only [planB, Bool.and_eq_true, beq_iff_eq] at hp
    obtain ⟨hr, hp⟩ := hp
    refine ⟨(fun h => by rw [hr] at h; cases h), fun j hj => ?_⟩
    rw [hr] at hj
    obtain rfl : j = i := by simpa using hj
    unfold vcB at hk
    split at hk <;> try exact hk.elim
    rename_i o ho
    exact wpOp_of ho (one_sound hT ok hk fun _ _ _ _ _ h1 h2 _ _ => planB_sound hT hQ hp h1 h2)
theorem set_self (l : Array Bool) (i : Nat) : (l.setIfInBounds i true).getD i true = true := by
  rw [Array.getD_eq_getD_getElem?]
  by_cases h : i < l.size <;> simp [h]
/-! What may come at any time. -/
def floV : Option (Nat × Nat) → Nat → Nat → Value
  | none, B, f => .pointer (some ⟨B, f, none⟩)
  | some (l, c), B, f => .slice (some ⟨B, f, none⟩) l c
def floC : Option (Nat × Nat) → Nat → SC
  | none, i => .p i 0 0
  | some (l, c), i => .sl i 0 0 l c
theorem floC_is {m : Option (Nat × Nat)} {i : Nat} {r : Rho} {v : Value} (h : (floC m i).Is r v) : ∃ B f, r[i]? = some (B, f) ∧ v = floV m B f := by
  cases m with
  | none => obtain ⟨B, f, e, rfl⟩ := h; exact ⟨B, f, e, by simp [floV]⟩
  | some m => obtain ⟨B, f, e, rfl⟩ := h; exact ⟨B, f, e, by simp [floV]⟩
theorem is_floC (m : Option (Nat × Nat)) {i : Nat} {r : Rho} {B f : Nat} (h : r[i]? = some (B, f)) : (floC m i).Is r (floV m B f) := by
  cases m with
  | none => exact ⟨B, f, h, by simp [floV]⟩
  | some m => exact ⟨B, f, h, by simp [floV]⟩
theorem flo_plain {P : Program} {T : List (Nat × TD)} (hT : AllT P T) {op : Op} {ch : List Seg} {m : Option (Nat × Nat)} (hf : flo T op = some (ch, m)) : ∀ x ∈ flat ch, x.plain = true := by
  unfold flo at hf
  split at hf
  · split at hf
    · rename_i d e
      split at hf
      · simp only [Option.some.injEq, Prod.mk.injEq] at hf
        obtain ⟨rfl, _⟩ := hf
        exact List.all_eq_true.1 (hT.find e).plain
      · cases hf
    · cases hf
  · split at hf
    · split at hf
      · split at hf
        · rename_i de e
          split at hf
          · rename_i z hz
            split at hf
            · simp only [Option.some.injEq, Prod.mk.injEq] at hf
              obtain ⟨rfl, _⟩ := hf
              intro x hx
              have := (hT.find e).plain
              rw [hz] at this
              simp [flat] at hx this
              obtain ⟨_, _, rfl⟩ := hx
              exact this
            · cases hf
          · cases hf
        · cases hf
      · cases hf
    · cases hf
  · cases hf
theorem flo_st {T : List (Nat × TD)} {op : Op} {x : List Seg × Option (Nat × Nat)} (hf : flo T op = some x) : isCh op = true ∧ isSt op = false := by
  unfold flo at hf
  split at hf
  · exact ⟨rfl, rfl⟩
  · exact ⟨rfl, rfl⟩
  · cases hf
theorem td_find {u : Nat} {K : TD → Prop} {d : TD} (e : findT C.T u = some d) (hk : td C u K) : K d := by
  unfold td at hk; rw [e] at hk; exact hk
theorem td_back {u : Nat} {K : TD → Prop} {d : TD} (e : findT C.T u = some d) (hk : K d) : td C u K := by
  unfold td; rw [e]; exact hk
theorem flo_step {op : Op} {ch : List Seg} {m : Option (Nat × Nat)} (hf : flo C.T op = some (ch, m)) {t : List SV} {h : List (List Seg)} {k : SV → List (List Seg) → Prop} (hk : stepC C op t h k) : k (.a (.c (floC m h.length))) (h ++ [ch]) := by
  unfold flo at hf
  split at hf
  · split at hf
    · rename_i d e
      split at hf
      · rename_i hz
        simp only [Option.some.injEq, Prod.mk.injEq] at hf
        obtain ⟨rfl, rfl⟩ := hf
        unfold stepC at hk
        have hk := td_find e hk
        simp only [hz, addH_eq, Nat.zero_add] at hk
        exact hk
      · cases hf
    · cases hf
  · split at hf
    · rename_i d e
      split at hf
      · rename_i et hd
        split at hf
        · rename_i de e2
          split at hf
          · rename_i z hz
            split at hf
            · simp only [Option.some.injEq, Prod.mk.injEq] at hf
              obtain ⟨rfl, rfl⟩ := hf
              unfold stepC at hk
              have hk := td_find e hk
              simp only [hd] at hk
              have hk := td_find e2 hk
              simp only [ev, ofVal, ofInt, asC, frcSC, idx, frcN_eq, Int.toNat_natCast, hz, addH_eq, Nat.zero_add, Int.ofNat_eq_natCast] at hk
              exact hk.2
            · cases hf
          · cases hf
        · cases hf
      · cases hf
    · cases hf
  · cases hf
theorem step_flo {T : List (Nat × TD)} {P : Program} {op : Op} {ch : List Seg} {m : Option (Nat × Nat)} (hf : flo T op = some (ch, m)) (w : World) (t : List SV) : stepC ⟨P, T, w, [], [], 0, fun _ => True, fun _ => True⟩ op t [] fun x h => x = .a (.c (floC m 0)) ∧ h = [ch] := by
  unfold flo at hf
  split at hf
  · split at hf
    · rename_i d e
      split at hf
      · rename_i hz
        simp only [Option.some.injEq, Prod.mk.injEq] at hf
        obtain ⟨rfl, rfl⟩ := hf
        unfold stepC
        refine td_back (C := ⟨P, T, w, [], [], 0, fun _ => True, fun _ => True⟩) e ?_
        simp only [hz, addH_eq, Nat.zero_add]
        exact ⟨rfl, rfl⟩
      · cases hf
    · cases hf
  · split at hf
    · rename_i d e
      split at hf
      · rename_i et hd
        split at hf
        · rename_i de e2
          split at hf
          · rename_i z hz
            split at hf
            · rename_i hb
              simp only [Option.some.injEq, Prod.mk.injEq] at hf
              obtain ⟨rfl, rfl⟩ := hf
              simp only [Bool.and_eq_true, Nat.ble_eq] at hb
              unfold stepC
              refine td_back (C := ⟨P, T, w, [], [], 0, fun _ => True, fun _ => True⟩) e ?_
              simp only [hd]
              refine td_back (C := ⟨P, T, w, [], [], 0, fun _ => True, fun _ => True⟩) e2 ?_
              refine ⟨⟨Int.natCast_nonneg _, Int.ofNat_le.2 hb.1.1, ?_, Int.ofNat_le.2 hb.2⟩, ?_⟩
              · have := Int.ofNat_le.2 hb.1.2
                rw [Int.natCast_mul] at this
                exact this
              · rw [frcN_eq, frcN_eq]
                simp only [hz, addH_eq, Nat.zero_add]
                exact ⟨rfl, rfl⟩
            · cases hf
          · cases hf
        · cases hf
      · cases hf
    · cases hf
  · cases hf
theorem flo_hd {T : List (Nat × TD)} {op : Op} {ch : List Seg} {m : Option (Nat × Nat)} (hf : flo T op = some (ch, m)) : hd1 ch = true := by
  unfold flo at hf
  split at hf
  · split at hf
    · split at hf
      · rename_i hz
        simp only [Option.some.injEq, Prod.mk.injEq] at hf
        obtain ⟨rfl, _⟩ := hf
        exact hz
      · cases hf
    · cases hf
  · split at hf
    · split at hf
      · split at hf
        · split at hf
          · split at hf
            · simp only [Option.some.injEq, Prod.mk.injEq] at hf
              obtain ⟨rfl, _⟩ := hf
              rfl
            · cases hf
          · cases hf
        · cases hf
      · cases hf
    · cases hf
  · cases hf
theorem flo_run (hT : AllT C.P C.T) {op : Op} {ch : List Seg} {m : Option (Nat × Nat)} (hf : flo C.T op = some (ch, m)) {a : Act} (hd : a.defers = []) (w : World) :
    ∃ B f w', (∀ o : Oper, o.op = op → (execOp a.eval o).run C.P w = .ok (.value (floV m B f)) w') ∧ Ext [] w w' ∧ w.heap.size ≤ B ∧ B < w'.heap.size ∧ At true [] w' B f (flat ch) := by
  have hk := step_flo (P := C.P) hf w (List.replicate a.tmps.size .any)
  have ok : Ok ⟨C.P, C.T, w, [], [], 0, fun _ => True, fun _ => True⟩ ⟨List.replicate a.tmps.size .any, []⟩ [] a w :=
    ⟨⟨Ext.refl _ _, RLe.refl _, Nat.le_refl _, rfl, fun i ch B f hi => by simp at hi, fun i B f _ hr => by simp at hr, fun i B f _ hr => by simp at hr, fun i B f _ _ hr => by simp at hr, fun i ch _ _ hi => by simp at hi, fun i j B f f' ch ch' _ _ _ hi => by simp at hi, fun i m B f _ hi => by simp at hi, fun i W ms hi => by simp at hi⟩, by simp, fun d x e => by
      rw [List.getElem?_replicate] at e
      split at e
      · injection e with e; subst e; trivial
      · (cases e), hd⟩
  obtain ⟨v, x, h', r', w', ⟨rfl, rfl⟩, hx, _, hh, he, _, hrun⟩ := stepC_sound (C := ⟨C.P, C.T, w, [], [], 0, fun _ => True, fun _ => True⟩) hT ok hk
  obtain ⟨B, f, hr, rfl⟩ := floC_is hx
  refine ⟨B, f, w', fun o ho => ?_, he.quiet (flo_st hf).2, ?_, hh.lt 0 B f (Nat.zero_le _) hr, fun j y e => ?_⟩
  · rcases hrun o ho with h | ⟨_, h⟩
    · exact h
    · cases m <;> cases h
  · rcases hh.own 0 B f (Nat.zero_le _) hr with h | h
    · cases h
    · exact h
  · obtain ⟨v, e1, e2, e3⟩ := hh.chunks 0 ch B f rfl hr j y e
    have hp := flo_plain hT hf y (List.mem_of_getElem? e)
    refine ⟨v, e1, ?_, fun _ => e3 rfl⟩
    cases y <;> first | exact e2 | cases hp
/-- A block that came early. -/
def Rec (C : Cx) (ops : Array Oper) (a : Act) (w : World) (h : List (List Seg)) (r : Rho) (x : Nat × Nat × Nat) : Prop :=
  ∃ o d ch m, ops[x.1]? = some o ∧ o.dst = some d ∧ o.guard = none ∧ flo C.T o.op = some (ch, m) ∧ a.tmps.getD d undef = floV m x.2.1 x.2.2 ∧ At true [] w x.2.1 x.2.2 (flat ch) ∧ x.2.1 < w.heap.size ∧ x.2.1 ∉ (r.drop C.ro).map (·.1) ∧ C.w0.heap.size ≤ x.2.1 ∧ ∀ (i : Nat) (W : World) (ms : List Nat), h[i]? = some [.past W ms] → x.2.1 < W.heap.size → x.2.1 ∈ ms
theorem HeapOk.adopt {h : List (List Seg)} {r : Rho} {w : World} (ok : HeapOk C h r w) {B f : Nat} {ch : List Seg} (h1 : At true [] w B f (flat ch)) (h2 : B < w.heap.size) (h3 : B ∉ (r.drop C.ro).map (·.1)) (h4 : C.w0.heap.size ≤ B) (h5 : ∀ (i : Nat) (W : World) (ms : List Nat), h[i]? = some [.past W ms] → B < W.heap.size → B ∈ ms) (h6 : hd1 ch = true) : HeapOk C (h ++ [ch]) (r ++ [(B, f)]) w := by
  have hlen : r.length = h.length := ok.len
  have hr : ∀ (i B' f' : Nat), (r ++ [(B, f)])[i]? = some (B', f') → (i < h.length ∧ r[i]? = some (B', f')) ∨ (i = h.length ∧ B' = B ∧ f' = f) := by
    intro i B' f' e
    rcases Nat.lt_trichotomy i h.length with hi | hi | hi
    · rw [List.getElem?_append_left (by omega)] at e; exact .inl ⟨hi, e⟩
    · subst hi
      rw [← hlen] at e
      simp at e
      exact .inr ⟨rfl, e.1.symm, e.2.symm⟩
    · rw [List.getElem?_eq_none (by simp; omega)] at e; cases e
  have hh : ∀ (i : Nat) c, (h ++ [ch])[i]? = some c → (i < h.length ∧ h[i]? = some c) ∨ (i = h.length ∧ c = ch) := by
    intro i c e
    rcases Nat.lt_trichotomy i h.length with hi | hi | hi
    · rw [List.getElem?_append_left hi] at e; exact .inl ⟨hi, e⟩
    · subst hi
      simp at e
      exact .inr ⟨rfl, e.symm⟩
    · rw [List.getElem?_eq_none (by simp; omega)] at e; cases e
  have nb : ∀ (i f' : Nat), C.ro ≤ i → r[i]? = some (B, f') → False := fun i f' ho e => h3 (mem_drop.2 ⟨i, f', ho, e⟩)
  have hrl := ok.rlen
  have hrl2 := ok.rol
  refine ⟨ok.ext, ok.agree.trans (RLe.snoc _ _), ok.rol, by simp [hlen], fun i c B' f' hi hri => ?_, fun i B' f' ho hri => ?_, fun i B' f' ho hri => ?_, fun i B' f' ho hl hri => ?_, fun i c ho hl hi => ?_, fun i j B' f1 f2 c c' hij o1 o2 hi hj hri hrj => ?_, fun i m B' f' ho hi hri => ?_, fun i W ms hi => ?_⟩
  · rcases hr i B' f' hri with ⟨q1, q2⟩ | ⟨q1, rfl, rfl⟩
    · rcases hh i c hi with ⟨_, p2⟩ | ⟨p1, _⟩
      · exact (ok.chunks i c B' f' p2 q2).mono (RLe.snoc _ _)
      · omega
    · rcases hh i c hi with ⟨p1, _⟩ | ⟨_, rfl⟩
      · omega
      · intro j y e
        obtain ⟨v, e1, e2, e3⟩ := h1 j y e
        exact ⟨v, e1, e2.mono (fun i x e => by cases e), fun _ => e3 rfl⟩
  · rcases hr i B' f' hri with ⟨_, q2⟩ | ⟨_, rfl, _⟩
    · exact ok.lt i B' f' ho q2
    · exact h2
  · rcases hr i B' f' hri with ⟨_, q2⟩ | ⟨_, rfl, _⟩
    · exact ok.own i B' f' ho q2
    · exact .inr h4
  · rcases hr i B' f' hri with ⟨_, q2⟩ | ⟨q1, _, _⟩
    · exact ok.ros i B' f' ho hl q2
    · omega
  · rcases hh i c hi with ⟨_, u2⟩ | ⟨u1, _⟩
    · exact ok.dead i c ho hl u2
    · omega
  · rcases hr i B' f1 hri with ⟨q1, q2⟩ | ⟨q1, q2, _⟩ <;> rcases hr j B' f2 hrj with ⟨p1, p2⟩ | ⟨p1, p2, _⟩
    · rcases hh i c hi with ⟨_, u2⟩ | ⟨u1, _⟩
      · rcases hh j c' hj with ⟨_, v2⟩ | ⟨v1, _⟩
        · exact ok.apart i j B' f1 f2 c c' hij o1 o2 u2 v2 q2 p2
        · omega
      · omega
    · subst p2; exact (nb i f1 o1 q2).elim
    · subst q2; exact (nb j f2 o2 p2).elim
    · omega
  · rcases hh i _ hi with ⟨u1, u2⟩ | ⟨_, rfl⟩
    · rcases hr i B' f' hri with ⟨_, q2⟩ | ⟨q1, _⟩
      · exact ok.maps i m B' f' ho u2 q2
      · omega
    · cases h6
  · rcases hh i _ hi with ⟨u1, u2⟩ | ⟨_, rfl⟩
    · obtain ⟨p1, p2, p3⟩ := ok.past i W ms u2
      refine ⟨p1, p2, fun j B' f' ho hrj hB => ?_⟩
      rcases hr j B' f' hrj with ⟨_, q2⟩ | ⟨_, rfl, _⟩
      · exact p3 j B' f' ho q2 hB
      · exact h5 i W ms u2 hB
    · cases h6
theorem Ok.adopt {s : St} {r : Rho} {a : Act} {w : World} (ok : Ok C s r a w) {ops : Array Oper} {x : Nat × Nat × Nat} {d : Nat} {ch : List Seg} {m : Option (Nat × Nat)}
    (hv : a.tmps.getD d undef = floV m x.2.1 x.2.2) (h1 : At true [] w x.2.1 x.2.2 (flat ch)) (h2 : x.2.1 < w.heap.size) (h3 : x.2.1 ∉ (r.drop C.ro).map (·.1)) (h4 : C.w0.heap.size ≤ x.2.1) (h5 : ∀ (i : Nat) (W : World) (ms : List Nat), s.h[i]? = some [.past W ms] → x.2.1 < W.heap.size → x.2.1 ∈ ms) (h6 : hd1 ch = true) :
    Ok C ⟨s.t.set d (.a (.c (floC m s.h.length))), s.h ++ [ch]⟩ (r ++ [(x.2.1, x.2.2)]) a w := by
  refine ⟨ok.heap.adopt h1 h2 h3 h4 h5 h6, by simpa using ok.size, fun e y he => ?_, ok.defers⟩
  by_cases hde : d = e
  · subst hde
    simp only [List.getElem?_set_self'] at he
    cases hs : s.t[d]? with
    | none => rw [hs] at he; cases he
    | some z =>
      rw [hs] at he
      simp at he
      subst he
      rw [hv]
      exact is_floC m (by rw [← ok.heap.len]; simp)
  · rw [List.getElem?_set_ne hde] at he
    exact (ok.slots e y he).mono (RLe.snoc _ _)
theorem Stand.weaken {q : Keep} {h h' : List (List Seg)} {r r' : Rho} {w w' : World} (kk : Keeps h h') (hr : RLe r r') (k : Stand C q h' r' w w') : Stand C q h r w w' := by
  cases q with
  | free => trivial
  | all => exact k
  | only l => exact ⟨k.1, fun i hi ho B f e => k.2.1 i hi ho B f (hr _ _ e), fun i W ms e => let ⟨_, _, e2, hl⟩ := kk i W ms e; hl.ext (k.2.2 i _ _ e2)⟩
theorem Stand.trans {q : Keep} {h h' : List (List Seg)} {r r' : Rho} {w w1 w' : World} (hr : RLe r r') (kk : q.binds = true → Keeps h h') (k : Stand C q h r w w1) (k' : Stand C q h' r' w1 w') : Stand C q h r w w' := by
  cases q with
  | free => trivial
  | all => exact Ext.trans k k'
  | only l =>
    refine ⟨k'.1, fun i hi ho B f e hB => ?_, fun i W ms e => let ⟨_, _, e2, hl⟩ := kk rfl i W ms e; hl.ext (k'.2.2 i _ _ e2)⟩
    · have e2 := k.2.1 i hi ho B f e hB
      refine (k'.2.1 i hi ho B f (hr _ _ e) ?_).trans e2
      rcases Nat.lt_or_ge B w1.heap.size with h1 | h1
      · exact h1
      · rw [Array.getElem?_eq_none h1, Array.getElem?_eq_getElem hB] at e2; cases e2
theorem memB_iff {x : Nat} : ∀ {l : List Nat}, memB x l = true ↔ x ∈ l
  | [] => by simp [memB]
  | y :: l => by
    simp only [memB]
    split
    · rename_i h; simp [Nat.eq_of_beq_eq_true h]
    · rename_i h
      rw [memB_iff (l := l)]
      have : x ≠ y := fun e => by subst e; simp at h
      simp [this]
theorem Stand.near {q : Keep} (hq : q.binds = true) {h : List (List Seg)} {r : Rho} {w w' : World} (ok : HeapOk C h r w) {l : List Nat} (hl : seenOk q C.ro l = true) (k : Stand C q h r w w') : Near C h r l w w' := by
  cases q with
  | free => cases hq
  | all => exact ⟨ok.ext.quiet k, fun i _ _ B f hr hB => k.block B hB (by simp), fun i W ms e => (ok.past i W ms e).1.quiet k⟩
  | only m =>
    refine ⟨k.1, fun i hi ho B f hr hB => ?_, k.2.2⟩
    have := List.all_eq_true.1 hl i hi
    rw [Bool.or_eq_true] at this
    rcases this with h | h
    · exact k.2.1 i (memB_iff.1 h) ho B f hr hB
    · have h : i < C.ro := Nat.le_of_ble_eq_true h
      omega
theorem floOk_spec {T : List (Nat × TD)} {j : Nat} : ∀ {AL : List Nat}, floOk T ops AL = true → j ∈ AL → ∃ o d ch m, ops[j]? = some o ∧ o.dst = some d ∧ o.guard = none ∧ flo T o.op = some (ch, m) ∧ ∀ i o', ops[i]? = some o' → i ≠ j → o'.dst ≠ some d
  | [], _, h => by cases h
  | x :: AL, hf, h => by
    simp only [floOk, Bool.and_eq_true] at hf
    cases h with
    | tail _ h => exact floOk_spec hf.2 h
    | head =>
      have hf := hf.1
      split at hf <;> try cases hf
      rename_i o ho
      split at hf <;> try cases hf
      rename_i d hd
      split at hf <;> try cases hf
      rename_i hg
      simp only [Bool.and_eq_true] at hf
      obtain ⟨⟨ch, m⟩, e⟩ := Option.isSome_iff_exists.1 hf.1
      refine ⟨o, d, ch, m, ho, hd, hg, e, fun i o' hi hne hc => ?_⟩
      have hi' := (Array.getElem?_eq_some_iff.1 hi).1
      have := List.all_eq_true.1 hf.2 i (List.mem_range.2 hi')
      rw [Bool.or_eq_true] at this
      rcases this with h | h
      · exact hne (Nat.eq_of_beq_eq_true h)
      · have e : dstOf ops i = some d := by simp [dstOf, hi, hc]
        rw [e] at h
        simp at h
theorem getD_setAll {j : Nat} : ∀ {L : List Nat} {l : Array Bool}, (setAll l L).getD j true = (l.getD j true || decide (j ∈ L))
  | [], l => by simp [setAll]
  | i :: L, l => by
    rw [setAll, getD_setAll]
    by_cases h : i = j
    · subst h; rw [set_self]; simp
    · rw [getD_set_ne true h]
      have : j ≠ i := fun e => h e.symm
      simp [this]
theorem size_setAll : ∀ {L : List Nat} {l : Array Bool}, (setAll l L).size = l.size
  | [], l => rfl
  | i :: L, l => by rw [setAll, size_setAll]; simp
theorem getD_ff {l : Array Bool} {j : Nat} : l.getD j false = true ↔ j < l.size ∧ l.getD j true = true := by
  rw [Array.getD_eq_getD_getElem?, Array.getD_eq_getD_getElem?]
  by_cases h : j < l.size <;> simp [h]
theorem sub_len : ∀ {xs ys : List Nat}, xs.Nodup → (∀ x ∈ xs, x ∈ ys) → xs.length ≤ ys.length
  | [], _, _, _ => Nat.zero_le _
  | x :: xs, ys, hn, hs => by
    obtain ⟨h1, h2⟩ := List.nodup_cons.1 hn
    have hx := hs x (by simp)
    have := sub_len (ys := ys.erase x) h2 (fun y hy => (List.mem_erase_of_ne (fun e => by subst e; exact h1 hy)).2 (hs y (by simp [hy])))
    rw [List.length_erase_of_mem hx] at this
    have hp := List.length_pos_of_mem hx
    simp only [List.length_cons]
    omega
theorem nodup_mid {α β : Type} {f : α → β} {L1 L2 : List α} {x y : α} (h : ((L1 ++ x :: L2).map f).Nodup) (hy : y ∈ L1 ++ L2) : f y ≠ f x := by
  rw [List.map_append, List.map_cons, List.nodup_append] at h
  obtain ⟨_, h2, h3⟩ := h
  rcases List.mem_append.1 hy with h | h
  · exact h3 _ (List.mem_map_of_mem h) _ (by simp)
  · exact fun e => (List.nodup_cons.1 h2).1 (e ▸ List.mem_map_of_mem h)
theorem sub_mid {α : Type} (L1 L2 : List α) (x : α) : (L1 ++ L2).Sublist (L1 ++ x :: L2) := List.Sublist.append (List.Sublist.refl _) (List.sublist_cons_self _ _)
theorem memOf_spec {A : List (Nat × Bool)} {x : Nat × Bool} (hx : x ∈ A) : x.1 ∈ memOf ops A ∨ x.2 = true ∧ ∀ o, ops[x.1]? = some o → pureOp o.op = true := by
  by_cases h : (x.2 && match ops[x.1]? with
    | some o => pureOp o.op
    | none => false) = true
  · rw [Bool.and_eq_true] at h
    exact .inr ⟨h.1, fun o ho => by have := h.2; rw [ho] at this; exact this⟩
  · refine .inl (List.mem_map.2 ⟨x, List.mem_filter.2 ⟨hx, ?_⟩, rfl⟩)
    show (!(x.2 && match ops[x.1]? with | some o => pureOp o.op | none => false)) = true
    rw [Bool.eq_false_iff.2 h]
    rfl
/-- A plan's first part. -/
theorem planA_sound {K : St → Prop} {q : Keep} (hq : q.binds = true) (hT : AllT C.P C.T) (hP : PanicOk Q) {AL B : List Nat} {T M : List Nat} (hfl : floOk C.T ops AL = true) (hAL : ∀ j ∈ AL, j ∈ T) (hns : Region.noSelect ops = true) (hw : Region.waitsM .any ops T M = true)
    (hQ : ∀ s' r' a' w', K s' → Ok C s' r' a' w' → Q .normal a' w') :
    ∀ (m n : Nat) {A : List (Nat × Bool)} {l lr : Array Bool} {D : List (Nat × Nat × Nat)} {s : St} {r : Rho} {a : Act} {w : World}, n + A.length ≤ m →
      (∀ j, lr.getD j true = (l.getD j true || decide (j ∈ D.map (·.1)))) → lr.size = l.size → Region.Closed .any ops lr → (∀ x ∈ A, x.1 ∈ T) → (∀ x ∈ A, x.1 ∈ M ∨ x.2 = true ∧ ∀ o, ops[x.1]? = some o → pureOp o.op = true) → planOk ops AL B A l = true →
      (∀ i ∈ T, l.getD i true = false → ∃ g, (i, g) ∈ A) → (∀ x ∈ D, x.1 ∈ AL ∧ l.getD x.1 true = false ∧ Rec C ops a w s.h r x) → (D.map (·.1)).Nodup → (D.map (·.2.1)).Nodup →
      (∀ j ∈ AL, l.getD j true = false → ∀ d, dstOf ops j = some d → s.t[d]? = some .any) → n + D.length = A.length + B.length →
      vcA C q ops A s (fun s' => vcB C ops B s' K) → Ok C s r a w → wpAnyT C.P .any ops Q (Stand C q s.h r w) T n lr a w := by
  intro m
  induction m with
  | zero =>
    intro n A l lr D s r a w hm hlr hsz hc hA hM hp hl hD hD1 hD2 hany hn hk ok
    obtain rfl : A = [] := List.eq_nil_of_length_eq_zero (by omega)
    obtain rfl : n = 0 := by omega
    have hB : B = [] := List.eq_nil_of_length_eq_zero (by
      cases D with
      | nil => simp at hn; simp [hn]
      | cons x D => obtain ⟨g, hg⟩ := hl x.1 (hAL _ (hD x (by simp)).1) (hD x (by simp)).2.1; cases hg)
    subst hB
    have hDe : D = [] := by simpa using hn
    subst hDe
    have : lr = l := by
      apply Array.ext hsz
      intro i h1 h2
      have := hlr i
      simpa [Array.getD_eq_getD_getElem?, h1, h2] using this
    subst this
    have hB := planB_sound hT hQ (show planB ops [] lr = true from hp) hk ok
    exact hB
  | succ m ih =>
    intro n A l lr D s r a w hm hlr hsz hc hA hM hp hl hD hD1 hD2 hany hn hk ok
    have putD_ne : ∀ {i : Nat} {o : Oper} {v : Value} {x : Nat × Nat × Nat}, ops[i]? = some o → x ∈ D → x.1 ≠ i → Rec C ops a w s.h r x → Rec C ops (a.put o.dst v) w s.h r x := by
      rintro i o v x ho hx hne ⟨ox, d, ch, mm, h1, h2, h3, h4, h5, h6⟩
      refine ⟨ox, d, ch, mm, h1, h2, h3, h4, ?_, h6⟩
      obtain ⟨o1, d1, _, _, g1, g2, _, _, g5⟩ := floOk_spec hfl (hD x hx).1
      rw [h1] at g1
      injection g1 with g1
      subst g1
      rw [h2] at g2
      injection g2 with g2
      subst g2
      have hdd := g5 i o ho (Ne.symm hne)
      rw [← h5]
      cases e : o.dst with
      | none => rfl
      | some e' =>
        have : e' ≠ d := fun e2 => by subst e2; exact hdd e
        simp only [Act.put]
        rw [Array.getD_eq_getD_getElem?, Array.getD_eq_getD_getElem?, Array.getElem?_setIfInBounds_ne this]
    have rec_frm : ∀ {h' : List (List Seg)} {r' : Rho} {w' : World} {a' : Act} {x : Nat × Nat × Nat}, RLe r r' → Frm C q s.h r w h' r' w' → Rec C ops a' w s.h r x → Rec C ops a' w' h' r' x := by
      rintro h' r' w' a' x hr hF ⟨ox, d, ch, mm, h1, h2, h3, h4, h5, h6, h7, h8, h9, h10⟩
      refine ⟨ox, d, ch, mm, h1, h2, h3, h4, h5, h6.block (hF.ext.block _ h7 h8), Nat.lt_of_lt_of_le h7 hF.ext.size, fun hc => ?_, h9, fun i W ms hi hB => Classical.byContradiction fun hn => by
        obtain ⟨j, W', ms', g1, g2, g3⟩ := hF.safe i W ms hi _ h7 hB hn
        exact g3 (h10 j W' ms' g1 g2)⟩
      obtain ⟨i, f, ho, e⟩ := mem_drop.1 hc
      rcases hF.fresh i _ _ ho e with h | h
      · exact h8 h
      · omega
    have any_put : ∀ {i : Nat} {o : Oper} {x : SV}, ops[i]? = some o → ∀ j ∈ AL, (l.setIfInBounds i true).getD j true = false → ∀ d, dstOf ops j = some d → (putT o.dst x s.t)[d]? = some .any := by
      intro i o x ho j hj hf d hd
      have hij : i ≠ j := fun e => by subst e; rw [set_self] at hf; cases hf
      rw [getD_set_ne true hij] at hf
      have h0 := hany j hj hf d hd
      obtain ⟨o1, d1, _, _, g1, g2, _, _, g5⟩ := floOk_spec hfl hj
      have : d1 = d := by
        have : dstOf ops j = some d1 := by simp [dstOf, g1, g2]
        rw [this] at hd; injection hd
      subst this
      have hdd := g5 i o ho hij
      cases e : o.dst with
      | none => exact h0
      | some e' =>
        have : e' ≠ d1 := fun e2 => by subst e2; exact hdd e
        simp only [putT]
        rw [List.getElem?_set_ne this]; exact h0
    cases A with
    | nil =>
      have hDe : D = [] := by
        cases D with
        | nil => rfl
        | cons x D => obtain ⟨g, hg⟩ := hl x.1 (hAL _ (hD x (by simp)).1) (hD x (by simp)).2.1; cases hg
      subst hDe
      have : lr = l := by
        apply Array.ext hsz
        intro i h1 h2
        have := hlr i
        simpa [Array.getD_eq_getD_getElem?, h1, h2] using this
      subst this
      have hall : ∀ i ∈ T, lr.getD i true = true := fun i hi => by
        cases e : lr.getD i true with
        | true => rfl
        | false => obtain ⟨g, hg⟩ := hl i hi e; cases hg
      have hB := planB_sound hT hQ (show planB ops B lr = true from hp) hk ok
      simp only [List.length_nil, Nat.add_zero, Nat.zero_add] at hn
      subst hn
      exact wpAnyT_end hall hB
    | cons ig A =>
      obtain ⟨i, g⟩ := ig
      have hiT : i ∈ T := hA (i, g) (by simp)
      have hA' : ∀ x ∈ A, x.1 ∈ T := fun x hx => hA x (by simp [hx])
      have hM' : ∀ x ∈ A, x.1 ∈ M ∨ x.2 = true ∧ ∀ o, ops[x.1]? = some o → pureOp o.op = true := fun x hx => hM x (by simp [hx])
      have hl' : ∀ j ∈ T, (l.setIfInBounds i true).getD j true = false → ∃ g, (j, g) ∈ A := by
        intro j hj hf
        by_cases hji : i = j
        · subst hji; rw [set_self] at hf; cases hf
        · rw [getD_set_ne true hji] at hf
          obtain ⟨g', hg⟩ := hl j hj hf
          cases hg with
          | head => exact absurd rfl hji
          | tail _ hg => exact ⟨g', hg⟩
      have hDlen : i ∉ D.map (·.1) → D.length ≤ A.length := fun hiD => by
        have := sub_len (xs := D.map (·.1)) (ys := A.map (·.1)) hD1 (fun j hj => by
          obtain ⟨x, hx, rfl⟩ := List.mem_map.1 hj
          obtain ⟨g', hg⟩ := hl x.1 (hAL _ (hD x hx).1) (hD x hx).2.1
          cases hg with
          | head => exact absurd hj hiD
          | tail _ hg => exact List.mem_map.2 ⟨_, hg, rfl⟩)
        simpa using this
      cases g with
      | true =>
        simp only [planOk, Bool.and_eq_true, Bool.not_eq_true'] at hp
        obtain ⟨⟨⟨h0, h1⟩, h2⟩, hp⟩ := hp
        have hiAL : i ∉ AL := fun hc => by rw [memB_iff.2 hc] at h0; cases h0
        have hiD : i ∉ D.map (·.1) := fun hc => by
          obtain ⟨x, hx, rfl⟩ := List.mem_map.1 hc
          exact hiAL (hD x hx).1
        obtain ⟨n, rfl⟩ : ∃ n', n = n' + 1 := ⟨n - 1, by have := hDlen hiD; simp only [List.length_cons] at hn; omega⟩
        unfold vcA at hk
        split at hk <;> try exact hk.elim
        rename_i o ho
        split at hk <;> try exact hk.elim
        rename_i hseen
        obtain ⟨v, x, hk, ok', hy⟩ := one_read hT ok hk
        have hin : i ∈ Region.ready .any ops l := by simpa using h1
        obtain ⟨r1, oj, r2, r3⟩ := mem_ready.1 hin
        have hlri : lr.getD i true = false := by rw [hlr, r1]; simpa using hiD
        have hinr : i ∈ Region.ready .any ops lr := mem_ready.2 ⟨hlri, oj, r2, fun e he hb => by
          have := getD_ff.1 (r3 e he hb)
          exact getD_ff.2 ⟨by rw [hsz]; exact this.1, by rw [hlr, this.2]; rfl⟩⟩
        have fr : ∀ j oj', ops[j]? = some oj' → j ≠ i → lr.getD j true = false → (∀ e ∈ oj'.after, Region.binds .any e = true → e.on ≠ i) → o.apart ops oj' = true := fun j oj' hj hji hf hnot => Region.free_spec ho h2 j oj' hj hji (by
          rw [hlr] at hf
          rw [Bool.or_eq_false_iff] at hf
          exact hf.1) hnot
        have rest : wpAnyT C.P .any ops Q (Stand C q s.h r w) T n (lr.setIfInBounds i true) (a.put o.dst v) w := by
          refine ih n (s := ⟨putT o.dst x s.t, s.h⟩) (A := A) (l := l.setIfInBounds i true) (D := D) (by simp only [List.length_cons] at hm; omega) (fun j => ?_) (by simp [hsz]) (hc.set hinr) hA' hM' hp hl' (fun x hx => ?_) hD1 hD2 (any_put ho) (by simp only [List.length_cons] at hn; omega) hk ok'
          · by_cases hij : i = j
            · subst hij; rw [set_self, set_self]; rfl
            · rw [getD_set_ne true hij, getD_set_ne true hij, hlr]
          · have hxi : x.1 ≠ i := fun e => hiD (List.mem_map.2 ⟨x, hx, e⟩)
            exact ⟨(hD x hx).1, by rw [getD_set_ne true (Ne.symm hxi)]; exact (hD x hx).2.1, putD_ne ho hx hxi (hD x hx).2.2⟩
        rcases hM (i, true) (by simp) with hmm | ⟨_, hpu⟩
        · have hy' : YieldsIf C.P ops (Stand C q s.h r w) o v a := by
            rcases hy with ⟨y1, y2⟩ | hy
            · exact .inl ⟨y1, fun w' hs => y2 w' fun _ => hs.near hq ok.heap hseen⟩
            · exact .inr hy
          exact wpAnyT_first ho hiT hmm hw (Region.noSelect_spec hns) (fun c a' w' => hP c a' _ _ w') n lr a w hc fr hinr hy' (Stand.of_quiet ok.heap (Ext.refl _ _)) rest
        · have hpo := hpu o ho
          have hy' : Yields C.P ops o v a := by
            rcases hy with ⟨y1, y2⟩ | hy
            · exact .inl ⟨y1, fun w' => y2 w' fun h => by rw [hpo] at h; cases h⟩
            · exact .inr hy
          exact wpAnyT_pure ho (Region.noSelect_spec hns) (fun c a' w' => hP c a' _ _ w') hiT n lr a w fr hinr hy' (Stand.of_quiet ok.heap (Ext.refl _ _)) rest
      | false =>
        simp only [planOk, Bool.and_eq_true, beq_iff_eq] at hp
        obtain ⟨⟨h1, h2⟩, hp⟩ := hp
        have hin : i ∈ Region.ready .any ops l := by simpa using h2
        obtain ⟨r1, oj, r2, r3⟩ := mem_ready.1 hin
        unfold vcA at hk
        split at hk <;> try exact hk.elim
        rename_i o ho
        by_cases hiD : i ∈ D.map (·.1)
        · obtain ⟨x, hx, hxi⟩ := List.mem_map.1 hiD
          obtain ⟨hxAL, hxl, hxr⟩ := hD x hx
          obtain ⟨o', d, ch, mm, e1, e2, e3, e4, e5, e6, e7, e8, e9, e10⟩ := hxr
          rw [hxi, ho] at e1
          injection e1 with e1
          subst e1
          obtain ⟨D1, D2, rfl⟩ := List.append_of_mem hx
          obtain ⟨t, h⟩ := s
          have hst := flo_st e4
          unfold one guard at hk
          rw [e3] at hk
          unfold step at hk
          rw [hst.1, hst.2, Bool.and_false] at hk
          have hk := putD_eq (flo_step e4 hk)
          rw [e2] at hk
          have ok' := ok.adopt (ops := ops) e5 e6 e7 e8 e9 e10 (flo_hd e4)
          have hiu : lr.getD i true = true := by rw [hlr]; simp [hxi]
          refine wpAnyT_mono (fun w' hs => Stand.weaken (Keeps.snoc _ _) (RLe.snoc _ _) hs) (ih n (A := A) (l := l.setIfInBounds i true) (lr := lr) (D := D1 ++ D2) (by simp only [List.length_cons] at hm; omega) (fun j => ?_) (by simp [hsz]) hc hA' hM' hp hl' (fun y hy => ?_) (hD1.sublist ((sub_mid D1 D2 x).map _)) (hD2.sublist ((sub_mid D1 D2 x).map _)) ?_ (by simp only [List.length_cons, List.length_append] at hn ⊢; omega) hk ok')
          · by_cases hij : i = j
            · subst hij; rw [set_self, hiu]; rfl
            · rw [getD_set_ne true hij, hlr]
              congr 1
              have : j ≠ x.1 := fun e => hij (by rw [e, hxi])
              simp [this]
          · have hyD : y ∈ D1 ++ x :: D2 := (sub_mid D1 D2 x).subset hy
            have hyi : y.1 ≠ i := by rw [← hxi]; exact nodup_mid (f := fun z => z.1) hD1 hy
            obtain ⟨y1, y2, o2, d2, ch2, m2, g1, g2, g3, g4, g5, g6, g7, g8, g9, g10⟩ := hD y hyD
            refine ⟨y1, by rw [getD_set_ne true (Ne.symm hyi)]; exact y2, o2, d2, ch2, m2, g1, g2, g3, g4, g5, g6, g7, fun hc => ?_, g9, fun i W ms hi hB => ?_⟩
            obtain ⟨k, f, ho, e⟩ := mem_drop.1 hc
            rw [List.getElem?_append] at e
            split at e
            · exact g8 (mem_drop.2 ⟨k, f, ho, e⟩)
            · have e := List.mem_of_getElem? e
              simp only [List.mem_singleton, Prod.mk.injEq] at e
              exact nodup_mid (f := fun z => z.2.1) hD2 hy e.1
            · rcases Nat.lt_trichotomy i h.length with hlt | heq | hgt
              · rw [List.getElem?_append_left hlt] at hi
                exact g10 i W ms hi hB
              · subst heq
                have hch := flo_hd e4
                simp at hi
                rw [hi] at hch
                cases hch
              · rw [List.getElem?_eq_none (by simp; omega)] at hi; cases hi
          · have := any_put (x := .a (.c (floC mm h.length))) ho
            rw [e2] at this
            exact this
        · obtain ⟨n, rfl⟩ : ∃ n', n = n' + 1 := ⟨n - 1, by have := hDlen hiD; simp only [List.length_cons] at hn; omega⟩
          have hlri : lr.getD i true = false := by rw [hlr, r1]; simpa using hiD
          have hinr : i ∈ Region.ready .any ops lr := mem_ready.2 ⟨hlri, oj, r2, fun e he hb => by
            have := getD_ff.1 (r3 e he hb)
            exact getD_ff.2 ⟨by rw [hsz]; exact this.1, by rw [hlr, this.2]; rfl⟩⟩
          refine ⟨(fun h => by rw [h] at hinr; cases hinr), fun j hj => ?_⟩
          obtain ⟨jf, o2, jo, jall⟩ := mem_ready.1 hj
          have jf' := jf
          rw [hlr, Bool.or_eq_false_iff] at jf'
          by_cases hji : j = i
          · subst hji
            have hk : one C q ops o s (fun s' => vcA C q ops A s' fun s' => vcB C ops B s' K) := hk
            refine wpAnyT_in hiT (wpOp_of ho (one_sound hT ok hk fun x v h' r' w' h1' h2' hr hF => ⟨hF.stand, wpAnyT_mono (fun w'' hs => hF.stand.trans hr hF.keeps hs) (ih n (A := A) (l := l.setIfInBounds j true) (lr := lr.setIfInBounds j true) (D := D) (by simp only [List.length_cons] at hm; omega) (fun k => ?_) (by simp [hsz]) (hc.set hj) hA' hM' hp hl' (fun y hy => ?_) hD1 hD2 (any_put ho) (by simp only [List.length_cons] at hn; omega) h1' h2')⟩))
            · by_cases hij : j = k
              · subst hij; rw [set_self, set_self]; rfl
              · rw [getD_set_ne true hij, getD_set_ne true hij, hlr]
            · have hyi : y.1 ≠ j := fun e => hiD (List.mem_map.2 ⟨y, hy, e⟩)
              exact ⟨(hD y hy).1, by rw [getD_set_ne true (Ne.symm hyi)]; exact (hD y hy).2.1, rec_frm hr hF (putD_ne ho hy hyi (hD y hy).2.2)⟩
          · have hjAL : j ∈ AL := by
              apply Classical.byContradiction
              intro hjn
              have : j ∈ Region.ready .any ops (setAll l (AL.filter fun j => !(Nat.beq j i))) := by
                refine mem_ready.2 ⟨?_, o2, jo, fun e he hb => ?_⟩
                · rw [getD_setAll, jf'.1]
                  simp [hjn]
                · have := getD_ff.1 (jall e he hb)
                  refine getD_ff.2 ⟨by rw [size_setAll, ← hsz]; exact this.1, ?_⟩
                  have h3 := this.2
                  rw [hlr, Bool.or_eq_true] at h3
                  rw [getD_setAll, Bool.or_eq_true]
                  rcases h3 with h3 | h3
                  · exact .inl h3
                  · refine .inr ?_
                    have h3 := of_decide_eq_true h3
                    obtain ⟨x, hx, hxe⟩ := List.mem_map.1 h3
                    have hne : e.on ≠ i := fun hc => hiD (hc ▸ h3)
                    refine decide_eq_true (List.mem_filter.2 ⟨hxe ▸ (hD x hx).1, ?_⟩)
                    have : Nat.beq e.on i = false := by
                      cases hb' : Nat.beq e.on i with
                      | false => rfl
                      | true => exact absurd (Nat.eq_of_beq_eq_true hb') hne
                    rw [this]; rfl
              rw [h1] at this
              exact hji (by simpa using this)
            have hjD : j ∉ D.map (·.1) := of_decide_eq_false jf'.2
            obtain ⟨o3, d, ch, mm, g1, g2, g3, g4, _⟩ := floOk_spec hfl hjAL
            obtain ⟨Bb, f, w', hrun, hext, hB1, hB2, hAt⟩ := flo_run hT g4 ok.defers w
            have hd : dstOf ops j = some d := by simp [dstOf, g1, g2]
            have hsd := hany j hjAL jf'.1 d hd
            have hdl : d < a.tmps.size := by
              rw [ok.size]
              rcases Nat.lt_or_ge d s.t.length with h | h
              · exact h
              · rw [List.getElem?_eq_none h] at hsd; cases hsd
            have hF : Frm C q s.h r w s.h r w' := ⟨hext.nil _, fun i B f ho h => .inl (mem_drop.2 ⟨i, f, ho, h⟩), Stand.of_quiet ok.heap hext, fun _ => Keeps.refl _, fun i W ms hi B _ h2 h3 => ⟨i, W, ms, hi, h2, h3⟩⟩
            have hset : s.t.set d .any = s.t := by
              apply List.ext_getElem?
              intro k
              by_cases hkd : d = k
              · subst hkd; rw [List.getElem?_set_self', hsd]; rfl
              · rw [List.getElem?_set_ne hkd]
            have ok' : Ok C s r (a.put o3.dst (floV mm Bb f)) w' := by
              have := ok.put (RLe.refl _) (ok.heap.ext0 hext) (x := .any) (v := floV mm Bb f) trivial d
              rw [hset] at this
              rw [g2]
              exact this
            have hrb : ∀ B', B' ∈ (r.drop C.ro).map (·.1) → B' < w.heap.size := by
              intro B' hB'
              obtain ⟨k, f', ho, e⟩ := mem_drop.1 hB'
              exact ok.heap.lt k _ _ ho e
            refine wpAnyT_in (hAL j hjAL) (wpOp_of g1 ?_)
            rw [if_pos (by simp [Region.wanted, g3])]
            unfold Oper.wp
            rw [hrun o3 rfl]
            refine ⟨hF.stand, wpAnyT_mono (fun w'' hs => hF.stand.trans (RLe.refl _) hF.keeps hs) (ih n (A := (i, false) :: A) (l := l) (lr := lr.setIfInBounds j true) (D := (j, Bb, f) :: D) (by simp only [List.length_cons] at hm ⊢; omega) (fun k => ?_) (by simp [hsz]) (hc.set hj) hA hM ?_ hl (fun y hy => ?_) ?_ ?_ hany (by simp only [List.length_cons] at hn ⊢; omega) ?_ ok')⟩
            · by_cases hjk : j = k
              · subst hjk; rw [set_self]; simp
              · rw [getD_set_ne true hjk, hlr]
                congr 1
                have : k ≠ j := fun e => hjk e.symm
                simp [this]
            · simp only [planOk, Bool.and_eq_true, beq_iff_eq]
              exact ⟨⟨h1, h2⟩, hp⟩
            · cases hy with
              | head =>
                refine ⟨hjAL, jf'.1, o3, d, ch, mm, g1, g2, g3, g4, ?_, hAt, hB2, fun hc => ?_, Nat.le_trans ok.heap.ext.size hB1, fun i W ms hi hB => ?_⟩
                · rw [g2]
                  simp only [Act.put]
                  simp [hdl]
                · have : Bb < w.heap.size := hrb _ hc
                  omega
                · have := (ok.heap.past i W ms hi).1.size
                  have hB : Bb < W.heap.size := hB
                  omega
              | tail _ hy =>
                have hyj : y.1 ≠ j := fun e => hjD (List.mem_map.2 ⟨y, hy, e⟩)
                exact ⟨(hD y hy).1, (hD y hy).2.1, rec_frm (RLe.refl _) hF (putD_ne g1 hy hyj (hD y hy).2.2)⟩
            · exact List.nodup_cons.2 ⟨hjD, hD1⟩
            · refine List.nodup_cons.2 ⟨fun hc => ?_, hD2⟩
              obtain ⟨y, hy, hye⟩ := List.mem_map.1 hc
              obtain ⟨_, _, _, _, _, _, _, _, _, _, _, _, g7, _, _, _⟩ := hD y hy
              rw [hye] at g7
              have g7 : Bb < w.heap.size := g7
              omega
            · unfold vcA
              rw [ho]
              exact hk
/-- An order where two come in either order. -/
theorem planT_sound {K : St → Prop} {q : Keep} (hq : q.binds = true) (hT : AllT C.P C.T) (hP : PanicOk Q) {B T M : List Nat} (hns : Region.noSelect ops = true) (hw : Region.waitsM .any ops T M = true)
    (hQ : ∀ s' r' a' w', K s' → Ok C s' r' a' w' → Q .normal a' w') :
    ∀ (t : PT) {l : Array Bool} {s : St} {r : Rho} {a : Act} {w : World}, planT ops T M B t l = true → Region.Closed .any ops l → vcT C q ops B t s K → Ok C s r a w →
      wpAnyT C.P .any ops Q (Stand C q s.h r w) T (ptLen t + B.length) l a w
  | .nil, l, s, r, a, w, hp, hc, hk, ok => by
    simp only [planT, Bool.and_eq_true] at hp
    refine wpAnyT_end (fun i hi => List.all_eq_true.1 hp.2 i hi) ?_
    show wpAny C.P .any ops Q (0 + B.length) l a w
    rw [Nat.zero_add]
    exact planB_sound hT hQ hp.1 hk ok
  | .rd i t, l, s, r, a, w, hp, hc, hk, ok => by
    simp only [planT, Bool.and_eq_true, Bool.or_eq_true] at hp
    obtain ⟨⟨⟨⟨h1, h2⟩, h3⟩, h4⟩, hp⟩ := hp
    have hiT := memB_iff.1 h3
    unfold vcT at hk
    split at hk <;> try exact hk.elim
    rename_i o ho
    split at hk <;> try exact hk.elim
    rename_i hseen
    obtain ⟨v, x, hk, ok', hy⟩ := one_read hT ok hk
    have hin : i ∈ Region.ready .any ops l := by simpa using h1
    have fr : ∀ j oj', ops[j]? = some oj' → j ≠ i → l.getD j true = false → (∀ e ∈ oj'.after, Region.binds .any e = true → e.on ≠ i) → o.apart ops oj' = true := fun j oj' hj hji hf hnot => Region.free_spec ho h2 j oj' hj hji hf hnot
    have rest : wpAnyT C.P .any ops Q (Stand C q s.h r w) T (ptLen t + B.length) (l.setIfInBounds i true) (a.put o.dst v) w :=
      planT_sound hq hT hP hns hw hQ t (s := ⟨putT o.dst x s.t, s.h⟩) hp (hc.set hin) hk ok'
    show wpAnyT C.P .any ops Q (Stand C q s.h r w) T (ptLen t + 1 + B.length) l a w
    rw [show ptLen t + 1 + B.length = ptLen t + B.length + 1 by omega]
    rcases h4 with hmm | hpu
    · have hy' : YieldsIf C.P ops (Stand C q s.h r w) o v a := by
        rcases hy with ⟨y1, y2⟩ | hy
        · exact .inl ⟨y1, fun w' hs => y2 w' fun _ => hs.near hq ok.heap hseen⟩
        · exact .inr hy
      exact wpAnyT_first ho hiT (memB_iff.1 hmm) hw (Region.noSelect_spec hns) (fun c a' w' => hP c a' _ _ w') _ l a w hc fr hin hy' (Stand.of_quiet ok.heap (Ext.refl _ _)) rest
    · have hpo : pureOp o.op = true := by
        unfold pureAt at hpu
        rw [ho] at hpu
        exact hpu
      have hy' : Yields C.P ops o v a := by
        rcases hy with ⟨y1, y2⟩ | hy
        · exact .inl ⟨y1, fun w' => y2 w' fun h => by rw [hpo] at h; cases h⟩
        · exact .inr hy
      exact wpAnyT_pure ho (Region.noSelect_spec hns) (fun c a' w' => hP c a' _ _ w') hiT _ l a w fr hin hy' (Stand.of_quiet ok.heap (Ext.refl _ _)) rest
  | .one i t, l, s, r, a, w, hp, hc, hk, ok => by
    simp only [planT, Bool.and_eq_true, beq_iff_eq] at hp
    obtain ⟨⟨h1, h3⟩, hp⟩ := hp
    have hiT := memB_iff.1 h3
    unfold vcT at hk
    split at hk <;> try exact hk.elim
    rename_i o ho
    have hin : i ∈ Region.ready .any ops l := by rw [h1]; simp
    show wpAnyT C.P .any ops Q (Stand C q s.h r w) T (ptLen t + 1 + B.length) l a w
    rw [show ptLen t + 1 + B.length = ptLen t + B.length + 1 by omega]
    refine ⟨(fun h => by rw [h] at hin; cases hin), fun j hj => ?_⟩
    rw [h1] at hj
    obtain rfl : j = i := by simpa using hj
    exact wpAnyT_in hiT (wpOp_of ho (one_sound hT ok hk fun x v h' r' w' h1' h2' hr hF => ⟨hF.stand, wpAnyT_mono (fun w'' hs => hF.stand.trans hr hF.keeps hs) (planT_sound hq hT hP hns hw hQ t hp (hc.set hin) h1' h2')⟩))
  | .alt i j t u, l, s, r, a, w, hp, hc, hk, ok => by
    simp only [planT, Bool.and_eq_true, beq_iff_eq] at hp
    obtain ⟨⟨⟨⟨⟨h1, h3⟩, h4⟩, h5⟩, hp⟩, hp'⟩ := hp
    have h5 := Nat.eq_of_beq_eq_true h5
    have hiT := memB_iff.1 h3
    have hjT := memB_iff.1 h4
    unfold vcT at hk
    obtain ⟨hk, hk'⟩ := hk
    have hin : i ∈ Region.ready .any ops l := by rw [h1]; simp
    have hjn : j ∈ Region.ready .any ops l := by rw [h1]; simp
    show wpAnyT C.P .any ops Q (Stand C q s.h r w) T (ptLen t + 1 + B.length) l a w
    rw [show ptLen t + 1 + B.length = ptLen t + B.length + 1 by omega]
    refine ⟨(fun h => by rw [h] at hin; cases hin), fun k hkk => ?_⟩
    rw [h1] at hkk
    have hkk : k = i ∨ k = j := by simpa using hkk
    rcases hkk with rfl | rfl
    · split at hk <;> try exact hk.elim
      rename_i o ho
      exact wpAnyT_in hiT (wpOp_of ho (one_sound hT ok hk fun x v h' r' w' h1' h2' hr hF => ⟨hF.stand, wpAnyT_mono (fun w'' hs => hF.stand.trans hr hF.keeps hs) (planT_sound hq hT hP hns hw hQ t hp (hc.set hin) h1' h2')⟩))
    · split at hk' <;> try exact hk'.elim
      rename_i o ho
      rw [h5]
      exact wpAnyT_in hjT (wpOp_of ho (one_sound hT ok hk' fun x v h' r' w' h1' h2' hr hF => ⟨hF.stand, wpAnyT_mono (fun w'' hs => hF.stand.trans hr hF.keeps hs) (planT_sound hq hT hP hns hw hQ u hp' (hc.set hjn) h1' h2')⟩))
theorem fgt_spec {ops : Array Oper} {K : St → Prop} {r : Rho} {a : Act} {w : World} : ∀ {AL : List Nat} {s : St}, fgt ops AL s K → Ok C s r a w → ∃ s', K s' ∧ Ok C s' r a w ∧ (∀ d : Nat, s.t[d]? = some .any → s'.t[d]? = some .any) ∧ ∀ j ∈ AL, ∀ d, dstOf ops j = some d → s'.t[d]? = some .any
  | [], s, hk, ok => ⟨s, hk, ok, fun _ h => h, fun j hj => by cases hj⟩
  | j :: AL, ⟨t, h⟩, hk, ok => by
    unfold fgt at hk
    split at hk <;> try exact hk.elim
    rename_i d hd
    split at hk <;> try exact hk.elim
    rename_i hlt
    have hlt : d < t.length := Nat.le_of_ble_eq_true hlt
    rw [setT_eq] at hk
    have ok1 : Ok C ⟨t.set d .any, h⟩ r a w := ⟨ok.heap, by simpa using ok.size, fun e y he => by
      by_cases hde : d = e
      · subst hde
        simp only [List.getElem?_set_self', List.getElem?_eq_getElem hlt] at he
        simp at he
        subst he
        trivial
      · rw [List.getElem?_set_ne hde] at he
        exact ok.slots e y he, ok.defers⟩
    obtain ⟨s', h1, h2, h3, h4⟩ := fgt_spec hk ok1
    refine ⟨s', h1, h2, fun e he => h3 e ?_, fun k hk' e he => ?_⟩
    · show (t.set d .any)[e]? = _
      by_cases hde : d = e
      · subst hde; simp [hlt]
      · rw [List.getElem?_set_ne hde]; exact he
    · cases hk' with
      | head =>
        rw [hd] at he
        injection he with he
        subst he
        exact h3 d (by simp [hlt])
      | tail _ hk' => exact h4 k hk' e he
theorem draw_soundA {K : St → Prop} (hT : AllT C.P C.T) (hm : C.P.follows .mixedOrders = true) (hP : PanicOk Q) (hQ : ∀ s' r' a' w', K s' → Ok C s' r' a' w' → Q .normal a' w') {k : Option (List Nat)} {AL : List Nat} {A : List (Nat × Bool)} {B : List Nat} (hp : (planAll ops AL A B && floOk C.T ops AL) = true)
    {s : St} {r : Rho} {a : Act} {w : World} {id : Nat} (hk : fgt ops AL s fun s => vcA C (keepOf k) ops A s fun s' => vcB C ops B s' K) (ok : Ok C s r a w) : (Code.region id ops true).wp C.P Q a w := by
  rw [Bool.and_eq_true] at hp
  obtain ⟨hp, hfl⟩ := hp
  simp only [planAll, Bool.and_eq_true] at hp
  obtain ⟨⟨⟨⟨h1, h2⟩, h3⟩, h4⟩, h5⟩ := hp
  have h4 := Nat.eq_of_beq_eq_true h4
  obtain ⟨s1, hk, ok, _, hany⟩ := fgt_spec hk ok
  refine wp_region_any hm (wpAny_of_T (S := Stand C (keepOf k) s1.h r w.drew) (T := A.map (·.1)) ?_)
  have ok' : Ok C s1 r a w.drew := ⟨ok.heap.ext0 ((Ext.refl _ _).drew), ok.size, ok.slots, ok.defers⟩
  rw [← h4] at h1
  rw [← h4]
  refine planA_sound (q := keepOf k) (by cases k <;> rfl) hT hP hfl (fun j hj => memB_iff.1 (List.all_eq_true.1 h5 j hj)) h2 h3 hQ _ _ (D := []) (Nat.le_refl _) (fun j => by simp) rfl (by rw [h4]; exact Region.Closed.start) (fun x hx => List.mem_map.2 ⟨x, hx, rfl⟩) (fun x hx => memOf_spec hx) h1 (fun i hi _ => by
    obtain ⟨x, hx, rfl⟩ := List.mem_map.1 hi
    exact ⟨x.2, hx⟩) (fun x hx => by cases hx) (by simp) (by simp) (fun j hj _ => hany j hj) (by simp) hk ok'
theorem draw_sound {K : St → Prop} (hT : AllT C.P C.T) (hm : C.P.follows .mixedOrders = true) (hP : PanicOk Q) (hQ : ∀ s' r' a' w', K s' → Ok C s' r' a' w' → Q .normal a' w') {k : Option (List Nat)} {AL : List Nat} {A : List (Nat × Bool)} {B : List Nat} (hp : planAny C.T ops AL A B = true)
    {s : St} {r : Rho} {a : Act} {w : World} {id : Nat} (hk : vcAny C (keepOf k) ops AL A B s K) (ok : Ok C s r a w) : (Code.region id ops true).wp C.P Q a w := by
  unfold planAny at hp
  unfold vcAny at hk
  cases hs : swp A AL with
  | none =>
    rw [hs] at hp hk
    exact draw_soundA hT hm hP hQ hp hk ok
  | some pt =>
    rw [hs] at hp hk
    dsimp only at hp hk
    simp only [planAllT, Bool.and_eq_true] at hp
    obtain ⟨⟨⟨h1, h2⟩, h3⟩, h4⟩ := hp
    have h4 := Nat.eq_of_beq_eq_true h4
    refine wp_region_any hm (wpAny_of_T (S := Stand C (keepOf k) s.h r w.drew) (T := A.map (·.1)) ?_)
    have ok' : Ok C s r a w.drew := ⟨ok.heap.ext0 ((Ext.refl _ _).drew), ok.size, ok.slots, ok.defers⟩
    rw [← h4] at h1 ⊢
    exact planT_sound (q := keepOf k) (by cases k <;> rfl) hT hP h2 h3 hQ _ h1 (by rw [h4]; exact Region.Closed.start) hk ok'
end

/-! Loops: other names, less said. -/
section
variable {C : Cx}
theorem wp_loopX {P : Program} {X : Type} {c : Code} {Q : Exit → Act → World → Prop} {a : Act} {w : World} (I : X → Act → World → Prop) (μ : X → Nat) (h₀ : ∃ x, I x a w)
    (round : ∀ x a w, I x a w → c.wp P (Exit.then (fun a' w' => ∃ x', I x' a' w' ∧ μ x' < μ x) Q) a w) : (Code.loop c).wp P Q a w := by
  intro b k cs
  have key : ∀ n x a w, μ x = n → I x a w →
      ∃ e a' w', Q e a' w' ∧ Arrives P (lone (b.at a (.code c :: .inLoop c :: k)) cs w) b k cs e a' w' := by
    intro n
    induction n using Nat.strongRecOn with
    | _ n ih =>
      intro x a w hn hI
      obtain ⟨e, a₁, w₁, hq, harr⟩ := round x a w hI b (.inLoop c :: k) cs
      cases e with
      | normal =>
        obtain ⟨x', hI₁, hlt⟩ := hq
        obtain ⟨e₂, a₂, w₂, hq₂, harr₂⟩ := ih (μ x') (hn ▸ hlt) x' a₁ w₁ rfl hI₁
        exact ⟨e₂, a₂, w₂, hq₂, .of_steps (Steps.trans harr (.one step_inLoop)) harr₂⟩
      | exit id => exact ⟨_, a₁, w₁, hq, .pass (x := .inLoop c) rfl (fun _ _ => .inl (by simp)) harr⟩
      | goto l => exact ⟨_, a₁, w₁, hq, .pass (x := .inLoop c) rfl (fun _ _ => .inl (by simp)) harr⟩
      | ret => exact ⟨_, a₁, w₁, hq, .pass (x := .inLoop c) rfl (fun _ _ => .inl (by simp)) harr⟩
      | panic ch => exact ⟨_, a₁, w₁, hq, .pass (x := .inLoop c) rfl (fun _ _ => .inl (by simp)) harr⟩
      | outgrown => exact ⟨_, a₁, w₁, hq, .pass (x := .inLoop c) rfl (fun _ _ => .inl (by simp)) harr⟩
  obtain ⟨x, h₀⟩ := h₀
  obtain ⟨e, a', w', hq, harr⟩ := key _ x a w rfl h₀
  exact ⟨e, a', w', hq, .of_steps (.one step_loop) harr⟩
/-- Inside a loop, at a round's head. -/
def InLoop (P : Program) (c : Code) (Q : Exit → Act → World → Prop) (a : Act) (w : World) : Prop :=
  ∀ (b : Frame) (k : List Item) (cs : List Frame), ∃ e a' w', Q e a' w' ∧ Arrives P (lone (b.at a (.code c :: .inLoop c :: k)) cs w) b k cs e a' w'
theorem wp_of_inLoop {P : Program} {c : Code} {Q : Exit → Act → World → Prop} {a : Act} {w : World} (h : InLoop P c Q a w) : (Code.loop c).wp P Q a w := by
  intro b k cs
  obtain ⟨e, a', w', hq, harr⟩ := h b k cs
  exact ⟨e, a', w', hq, .of_steps (.one step_loop) harr⟩
theorem inLoop_round {P : Program} {c : Code} {Q : Exit → Act → World → Prop} {a : Act} {w : World} (h : c.wp P (Exit.then (InLoop P c Q) Q) a w) : InLoop P c Q a w := by
  intro b k cs
  obtain ⟨e, a₁, w₁, hq, harr⟩ := h b (.inLoop c :: k) cs
  cases e with
  | normal =>
    obtain ⟨e₂, a₂, w₂, hq₂, harr₂⟩ := hq b k cs
    exact ⟨e₂, a₂, w₂, hq₂, .of_steps (Steps.trans harr (.one step_inLoop)) harr₂⟩
  | exit id => exact ⟨_, a₁, w₁, hq, .pass (x := .inLoop c) rfl (fun _ _ => .inl (by simp)) harr⟩
  | goto l => exact ⟨_, a₁, w₁, hq, .pass (x := .inLoop c) rfl (fun _ _ => .inl (by simp)) harr⟩
  | ret => exact ⟨_, a₁, w₁, hq, .pass (x := .inLoop c) rfl (fun _ _ => .inl (by simp)) harr⟩
  | panic ch => exact ⟨_, a₁, w₁, hq, .pass (x := .inLoop c) rfl (fun _ _ => .inl (by simp)) harr⟩
  | outgrown => exact ⟨_, a₁, w₁, hq, .pass (x := .inLoop c) rfl (fun _ _ => .inl (by simp)) harr⟩
theorem inLoop_of {P : Program} {X : Type} {c : Code} {Q : Exit → Act → World → Prop} (I : X → Act → World → Prop) (μ : X → Nat)
    (round : ∀ x a w, I x a w → c.wp P (Exit.then (fun a' w' => ∃ x', I x' a' w' ∧ μ x' < μ x) Q) a w) : ∀ (n : Nat) (x : X) (a : Act) (w : World), μ x = n → I x a w → InLoop P c Q a w := by
  intro n
  induction n using Nat.strongRecOn with
  | _ n ih =>
    intro x a w hn hI
    refine inLoop_round (wp_mono (round x a w hI) fun e a' w' hq => ?_)
    cases e with
    | normal =>
      obtain ⟨x', hI', hlt⟩ := hq
      exact ih (μ x') (hn ▸ hlt) x' a' w' rfl hI'
    | _ => exact hq
end
end Sx
end Go.Proofs.YtnehmcpkeamghaaDoor
end
