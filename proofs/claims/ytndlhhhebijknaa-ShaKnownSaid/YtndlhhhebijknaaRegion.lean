/-
  Regions that draw their order: what is stronger may be asked midway; readers that all stores wait for. Over any program. No condition of its own.
-/
import Derived.Test.YtndlhhhebijknaaExt
import Derived.Deep.RegionHeld
import Derived.Deep.RegionHeld3
namespace Go.Proofs.Ytndlhhhebijknaa
set_option linter.unusedVariables false
open Go.RowKit

section
variable {P : Program} {ops : Array Oper} {Q : Exit → Act → World → Prop} {md : Region.Mode} {S S' : World → Prop}
/-- More may be asked of the world from here on. -/
theorem wpAnyH_mono (hS : ∀ w, S' w → S w) : ∀ {fuel : Nat} {listed : Array Bool} {a : Act} {w : World}, wpAnyH P md ops Q S' fuel listed a w → wpAnyH P md ops Q S fuel listed a w
  | 0, _, _, _, h => h
  | _ + 1, _, _, _, h => ⟨h.1, fun i hi => wpOp_mono (fun _ _ h' => ⟨hS _ h'.1, wpAnyH_mono hS h'.2⟩) (h.2 i hi)⟩

/-- As long as one of T has not come up, S is to hold behind each operation; then whatever order. -/
def wpAnyP (P : Program) (md : Region.Mode) (ops : Array Oper) (Q : Exit → Act → World → Prop) (S : World → Prop) (T : List Nat) : Nat → Array Bool → Act → World → Prop
  | 0, listed, a, w => Region.ready md ops listed = [] ∧ Q .normal a w
  | fuel + 1, listed, a, w => if T.all (fun i => listed.getD i true) = true then wpAny P md ops Q (fuel + 1) listed a w else
    (Region.ready md ops listed = [] → Q .normal a w) ∧
    ∀ i ∈ Region.ready md ops listed, wpOp P ops Q i (fun a' w' => S w' ∧ wpAnyP P md ops Q S T fuel (listed.setIfInBounds i true) a' w') a w
theorem wpAnyP_not {T : List Nat} {fuel : Nat} {listed : Array Bool} {a : Act} {w : World} {i : Nat} (hi : i ∈ T) (hu : listed.getD i true = false) :
    wpAnyP P md ops Q S T (fuel + 1) listed a w = ((Region.ready md ops listed = [] → Q .normal a w) ∧
    ∀ i ∈ Region.ready md ops listed, wpOp P ops Q i (fun a' w' => S w' ∧ wpAnyP P md ops Q S T fuel (listed.setIfInBounds i true) a' w') a w) := by
  rw [wpAnyP, if_neg]
  intro h
  have := List.all_eq_true.1 h i hi
  rw [hu] at this
  cases this
theorem wpAny_of_phase {T : List Nat} : ∀ {fuel : Nat} {listed : Array Bool} {a : Act} {w : World}, wpAnyP P md ops Q S T fuel listed a w → wpAny P md ops Q fuel listed a w
  | 0, _, _, _, h => h
  | fuel + 1, listed, a, w, h => by
    unfold wpAnyP at h
    split at h
    · exact h
    · exact ⟨h.1, fun i hi => wpOp_mono (fun a' w' h' => wpAny_of_phase h'.2) (h.2 i hi)⟩
theorem wpAnyP_end {T : List Nat} {fuel : Nat} {listed : Array Bool} {a : Act} {w : World} (hT : T.all (fun i => listed.getD i true) = true) (h : wpAny P md ops Q (fuel + 1) listed a w) : wpAnyP P md ops Q S T (fuel + 1) listed a w := by
  rw [wpAnyP, if_pos hT]
  exact h
/-- j waits for i, itself. -/
def Region.dir (md : Region.Mode) (ops : Array Oper) (j i : Nat) : Bool := match ops[j]? with
  | some oj => oj.after.any fun e => Region.binds md e && e.on == i
  | none => false
/-- j waits for i, itself or by others. -/
def Region.reach (md : Region.Mode) (ops : Array Oper) (j : Nat) : Nat → Nat → Bool
  | 0, i => Region.dir md ops j i
  | n + 1, i => Region.dir md ops j i || (List.range ops.size).any fun k => Region.dir md ops k i && Region.reach md ops j n k
/-- Whoever is not in T waits for all of T. -/
def Region.waits (md : Region.Mode) (ops : Array Oper) (T : List Nat) : Bool :=
  (List.range ops.size).all fun j => T.contains j || T.all fun i => Region.reach md ops j ops.size i
/-- What came up came up behind what it waits for. -/
def Region.Closed (md : Region.Mode) (ops : Array Oper) (l : Array Bool) : Prop :=
  ∀ j oj, ops[j]? = some oj → l.getD j true = true → ∀ e ∈ oj.after, Region.binds md e = true → l.getD e.on true = true
theorem Region.Closed.start : Region.Closed md ops (Array.replicate ops.size false) := by
  intro j oj hj hl
  have hlt := (Array.getElem?_eq_some_iff.1 hj).1
  rw [Array.getD_eq_getD_getElem?] at hl
  simp [hlt] at hl
theorem Region.Closed.set {l : Array Bool} {j : Nat} (h : Region.Closed md ops l) (hr : j ∈ Region.ready md ops l) : Region.Closed md ops (l.setIfInBounds j true) := by
  have up : ∀ i, l.getD i true = true → (l.setIfInBounds j true).getD i true = true := by
    intro i hi
    by_cases hji : j = i
    · subst hji
      rw [Array.getD_eq_getD_getElem?]
      by_cases h : j < l.size <;> simp [h]
    · rw [getD_set_ne true hji]; exact hi
  intro k ok hk hl e he hb
  refine up _ ?_
  by_cases hjk : j = k
  · subst hjk
    obtain ⟨_, oj, hoj, hall⟩ := mem_ready.1 hr
    rw [hk] at hoj
    injection hoj with hoj
    subst hoj
    have := hall e he hb
    rw [Array.getD_eq_getD_getElem?]
    cases h2 : l[e.on]? with
    | none => rfl
    | some b => simpa [h2] using this
  · rw [getD_set_ne true hjk] at hl
    exact h k ok hk hl e he hb
theorem Region.dir_spec {j i : Nat} (h : Region.dir md ops j i = true) : ∃ oj, ops[j]? = some oj ∧ ∃ e ∈ oj.after, Region.binds md e = true ∧ e.on = i := by
  unfold Region.dir at h
  split at h
  · rename_i oj hoj
    obtain ⟨e, he, hb⟩ := Array.any_eq_true'.1 h
    simp only [Bool.and_eq_true, beq_iff_eq] at hb
    exact ⟨oj, hoj, e, he, hb.1, hb.2⟩
  · cases h
theorem Region.reach_spec {l : Array Bool} (hc : Region.Closed md ops l) {j : Nat}
    (hd : ∀ oj, ops[j]? = some oj → ∀ e ∈ oj.after, Region.binds md e = true → l.getD e.on true = true) : ∀ {n i : Nat}, Region.reach md ops j n i = true → l.getD i true = true := by
  have hdir : ∀ {i : Nat}, Region.dir md ops j i = true → l.getD i true = true := fun h => by
    obtain ⟨oj, hoj, e, he, hb, rfl⟩ := Region.dir_spec h
    exact hd oj hoj e he hb
  intro n
  induction n with
  | zero => exact hdir
  | succ n ih =>
    intro i h
    unfold Region.reach at h
    rw [Bool.or_eq_true] at h
    rcases h with h | h
    · exact hdir h
    · obtain ⟨k, _, hk⟩ := List.any_eq_true.1 h
      rw [Bool.and_eq_true] at hk
      obtain ⟨ok, hok, e, he, hb, rfl⟩ := Region.dir_spec hk.1
      exact hc k ok hok (ih hk.2) e he hb
theorem wpAnyP_first {T : List Nat} {i : Nat} {oi : Oper} {v : Value} (hi : ops[i]? = some oi) (hiT : i ∈ T) (hw : Region.waits md ops T = true) (hsel : ∀ (j : Nat) (o : Oper) cs b, ops[j]? = some o → o.op ≠ .select cs b)
    (hQ : ∀ c a w, Q (.panic c) (a.put oi.dst v) w → Q (.panic c) a w) :
    ∀ (fuel : Nat) (listed : Array Bool) (a : Act) (w : World), Region.Closed md ops listed →
      (∀ j oj, ops[j]? = some oj → j ≠ i → listed.getD j true = false → (∀ e ∈ oj.after, Region.binds md e = true → e.on ≠ i) → oi.apart ops oj = true) →
      i ∈ Region.ready md ops listed → YieldsIf P ops S oi v a → S w →
      wpAnyP P md ops Q S T fuel (listed.setIfInBounds i true) (a.put oi.dst v) w → wpAnyP P md ops Q S T (fuel + 1) listed a w := by
  intro fuel
  induction fuel with
  | zero =>
    intro listed a w _ _ hr hy hS H
    rw [wpAnyP_not hiT (mem_ready.1 hr).1]
    refine ⟨fun h => (by rw [h] at hr; cases hr), fun j hj => ?_⟩
    by_cases hji : j = i
    · subst hji; exact hy.wpOp hi hS ⟨hS, H⟩
    · have := ready_mono hj hji
      rw [H.1] at this
      cases this
  | succ fuel ih =>
    intro listed a w hc hfree hr hy hS H
    rw [wpAnyP_not hiT (mem_ready.1 hr).1]
    refine ⟨fun h => (by rw [h] at hr; cases hr), fun j hj => ?_⟩
    by_cases hji : j = i
    · subst hji; exact hy.wpOp hi hS ⟨hS, H⟩
    · obtain ⟨hjun, oj, hoj, hall⟩ := mem_ready.1 hj
      have hnot : ∀ e ∈ oj.after, Region.binds md e = true → e.on ≠ i := fun e he hb heq => by
        have h1 := hall e he hb
        have h0 := (mem_ready.1 hr).1
        rw [heq] at h1
        rcases Nat.lt_or_ge i listed.size with h' | h'
        · simp [h'] at h0 h1; rw [h0] at h1; cases h1
        · simp [Array.getElem?_eq_none h'] at h1
      have hjT : j ∈ T := by
        have h1 := List.all_eq_true.1 hw j (List.mem_range.2 (Array.getElem?_eq_some_iff.1 hoj).1)
        rw [Bool.or_eq_true] at h1
        rcases h1 with h1 | h1
        · simpa using h1
        · have h2 := Region.reach_spec hc (fun ok hk e he hb => by
            rw [hoj] at hk
            injection hk with hk
            subst hk
            have := hall e he hb
            rw [Array.getD_eq_getD_getElem?]
            cases h2 : listed[e.on]? with
            | none => rfl
            | some b => simpa [h2] using this) (List.all_eq_true.1 h1 i hiT)
          rw [(mem_ready.1 hr).1] at h2
          cases h2
      rw [wpAnyP_not hjT (by rw [getD_set_ne true (Ne.symm hji)]; exact hjun)] at H
      have h1 := H.2 j (ready_mono hj hji)
      have h2 := wpOp_putIf hoj (hfree j oj hoj hji hjun hnot) (fun cs b => hsel i oi cs b hi) (fun cs b => hsel j oj cs b hoj) hQ hy h1
      have hfree' : ∀ k ok, ops[k]? = some ok → k ≠ i → (listed.setIfInBounds j true).getD k true = false →
          (∀ e ∈ ok.after, Region.binds md e = true → e.on ≠ i) → oi.apart ops ok = true := fun k ok hk hki hun hno => by
        refine hfree k ok hk hki ?_ hno
        by_cases hjk : j = k
        · subst hjk; exact hjun
        · rw [getD_set_ne true hjk] at hun; exact hun
      refine wpOp_mono (fun a' w' h3 => ⟨h3.2.1, ih (listed.setIfInBounds j true) a' w' (hc.set hj) hfree' (ready_mono hr (Ne.symm hji)) h3.1 h3.2.1 ?_⟩) h2
      rw [Array.setIfInBounds_comm _ _ hji]
      exact h3.2.2
theorem wpAnyP_take {T : List Nat} {i : Nat} {oi : Oper} {v : Value} {fuel : Nat} {listed : Array Bool} {a : Act} {w : World} (hi : ops[i]? = some oi) (hiT : T.contains i = true) (hw : Region.waits md ops T = true) (hc : Region.Closed md ops listed)
    (hs : Region.noSelect ops = true) (hf : Region.free md ops listed i = true) (hr : (Region.ready md ops listed).contains i = true)
    (hQ : ∀ c a w, Q (.panic c) (a.put oi.dst v) w → Q (.panic c) a w) (hy : YieldsIf P ops S oi v a) (hS : S w)
    (h : wpAnyP P md ops Q S T fuel (listed.setIfInBounds i true) (a.put oi.dst v) w) : wpAnyP P md ops Q S T (fuel + 1) listed a w :=
  wpAnyP_first hi (by simpa using hiT) hw (Region.noSelect_spec hs) hQ fuel listed a w hc (Region.free_spec hi hf) (by simpa using hr) hy hS h
/-- The beginning, where readers go ahead of all stores. -/
theorem wp_region_phase {id : Nat} {a : Act} {w : World} (T : List Nat) (hm : P.follows .mixedOrders = true)
    (h : wpAnyP P .any ops Q (fun w' => w' = w.drew) T ops.size (Array.replicate ops.size false) a w.drew) : (Code.region id ops true).wp P Q a w :=
  wp_region_any hm (wpAny_of_phase h)
/-! ### The same moves with everything written out (the lists, the fuel, the slot): a generator prints them -/
theorem reg_start {n : Nat} {id : Nat} {a : Act} {w : World} (listed : Array Bool) (hn : ops.size = n) (hl : Array.replicate n false = listed) (hm : P.follows .mixedOrders = true) (hS : S w.drew)
    (h : wpAnyH P .any ops Q S n listed a w.drew) : (Code.region id ops true).wp P Q a w := by
  subst hn
  subst hl
  exact wp_region_held_drew hm hS (fun _ => h)
theorem reg_take (i k : Nat) (listed' : Array Bool) {oi : Oper} {v : Value} {fuel : Nat} {listed : Array Bool} {a : Act} {w : World} (hi : ops[i]? = some oi) (hd : oi.dst = some k)
    (hs : Region.noSelect ops = true) (hf : Region.free md ops listed i = true) (hr : (Region.ready md ops listed).contains i = true)
    (hQ : ∀ c a w, Q (.panic c) (a.put (some k) v) w → Q (.panic c) a w) (hl : listed.setIfInBounds i true = listed') (hS : S w) (hy : YieldsIf P ops S oi v a)
    (h : wpAnyH P md ops Q S fuel listed' { tmps := a.tmps.setIfInBounds k v, defers := a.defers } w) : wpAnyH P md ops Q S (fuel + 1) listed a w := by
  subst hl
  exact wpAnyH_take hi hs hf hr (by rw [hd]; exact hQ) hy hS (by rw [hd]; exact h)
theorem reg_call (i : Nat) (listed' : Array Bool) {o : Oper} {fuel : Nat} {listed : Array Bool} {a : Act} {w : World} (ho : ops[i]? = some o) (hr : Region.ready md ops listed = [i]) (hw : Region.wanted o (yielded ops a.tmps) = true)
    (hl : listed.setIfInBounds i true = listed')
    (h : ∀ K' : Act → World → Prop, Shut (∀ S' : World → Prop, (∀ w, S' w → S w) → ∀ a' w', S w' → wpAnyH P md ops Q S' fuel listed' a' w' → K' a' w') → Oper.wp P o a w K' Q) : wpAnyH P md ops Q S (fuel + 1) listed a w := by
  subst hl
  refine wpAnyH_ready hr (by simp) (AllReadyH.cons ho (fun K' hK => ?_) AllReadyH.nil)
  rw [if_pos hw]
  exact h K' (fun S' hS' a' w' hSw hH => hK.out a' w' hSw (fun _ => wpAnyH_mono hS' hH))
theorem reg_done {listed : Array Bool} {a : Act} {w : World} {fuel : Nat} (hr : Region.ready md ops listed = []) (h : Q .normal a w) : wpAnyH P md ops Q S fuel listed a w := wpAnyH_done hr h fuel
theorem act_put_some (a : Act) (k : Nat) (v : Value) : a.put (some k) v = { tmps := a.tmps.setIfInBounds k v, defers := a.defers } := rfl
end
end Go.Proofs.Ytndlhhhebijknaa
