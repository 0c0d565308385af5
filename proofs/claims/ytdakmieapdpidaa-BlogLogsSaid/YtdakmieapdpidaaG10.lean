/-
  Texts of this claim, part 10: EqF, EqG. No condition of its own.
-/
import Derived.Test.YtdakmieapdpidaaG9
section
/-
  The law BlogLogs. No condition.
-/
namespace Go.Proofs.Ytdakmieapdpidaa
set_option linter.unusedVariables false
namespace Sx
open Go.RowKit Sha Vi Ev

abbrev BoAt (W : World) (ms : List Nat) (a : Option Addr) (n c : Nat) (l : List Bool) : Prop := SlAt W ms a n c 1 (l.map .bool)
abbrev LX : Type := (World × List Nat × Nat × Nat) ⊕ (World × List Nat × List Ev × Bool × Nat × List SC × Nat × List SC × Nat × Nat)
/-- What holds of a log. -/
structure LogOk (lim : Int) (m : List Ev) (cut : Bool) : Prop where
  good : GoodL 0#64 m
  open_ : cut = false → (∀ e ∈ m, e.k ≠ 19#8) ∧ (m.length : Int) < lim
theorem GoodL.small : ∀ {m : List Ev} {last : BitVec 64}, GoodL last m → ∀ e ∈ m, e.N.length ≤ 1000 ∧ e.D.length ≤ 1000
  | [], _, _, e, he => by cases he
  | x :: r, last, ⟨h1, _, h3⟩, e, he => by
    rcases List.mem_cons.1 he with rfl | he
    · have := many_le e.k
      have := h1.N
      have := h1.D
      omega
    · exact GoodL.small h3 e he
theorem vc_skip {C : Cx} {s : St} {Q : Exit → St → Prop} (h : Q .normal s) : vc C .skip s Q := h
theorem kseq_n {f : St → Prop} {Q : Exit → St → Prop} {s : St} (h : f s) : Kseq f Q .normal s := h
theorem vc_seq {C : Cx} {a b : Code} {s : St} {Q : Exit → St → Prop} (h : vc C a s (Kseq (fun s' => vc C b s' Q) Q)) : vc C (.seq a b) s Q := h
theorem vc_block {C : Cx} {i : Nat} {c : Code} {s : St} {Q : Exit → St → Prop} (h : vc C c s (Kblk i Q)) : vc C (.block i c) s Q := h
theorem vc_join4 {C : Cx} {a b c : Code} {s : St} {Q : Exit → St → Prop} (T : (St → Prop) → Prop) (hb : T (fun s' => vc C c s' Q)) (ha : T (fun s' => vc C c s' Q) → vc C (.seq a (.seq b c)) s Q) : vc C (.seq a (.seq b c)) s Q := ha hb
/-- The end of a row of one's own, lent. -/
theorem subRow {W0 W : World} {ms0 ms : List Nat} {A : Addr} {F : Nat → Bool} {α : Nat → Addr} {n c k o : Nat} {cs : List SC} {es : List Ev} (hr : RowAt W0 ms0 cs es) (hL : Later W0 ms0 W ms) (hn : es.length = n) (hk : k ≤ n) (hc : n ≤ c) (ho : (if c = k then 0 else 0 + k * 4) = o) (hcap : n ≤ 9223372036854775807)
    (h : flat [.row (scale c (3 + 1)) (nthC cs)] ≠ [] → ImAt W ms A (((flat [.row (scale c (3 + 1)) (nthC cs)]).map (SC.rz F α)).map SC.raw)) : EvsAt W ms (some (A.add (0 + o))) (n - k) (c - k) (es.drop k) := by
  refine ⟨by rw [List.length_drop]; omega, by omega, by omega, (fun e => by cases e), fun B hB j e he => ?_⟩
  injection hB with hB
  subst hB
  rw [List.getElem?_drop] at he
  have hj : k + j < es.length := (List.getElem?_eq_some_iff.1 he).1
  have ho2 : o = k * 4 := by rw [← ho, if_neg (by omega)]; omega
  subst ho2
  obtain ⟨x, h1, h2⟩ := hr.elt (k + j) e he
  have hcl := hr.len
  have hne : flat [.row (scale c (3 + 1)) (nthC cs)] ≠ [] := by
    intro e
    have := congrArg List.length e
    simp [flat, sc4] at this
    omega
  refine ⟨x, (((h hne).part (0 + k * 4) (m := (((flat [.row (scale c (3 + 1)) (nthC cs)]).map (SC.rz F α)).map SC.raw).drop (k * 4)) (fun q y hy => by rw [List.getElem?_drop] at hy; rw [Nat.zero_add]; exact hy)).part (j * 4) fun i y hy => ?_), h2.later hL⟩
  have hi : i < 4 := (List.getElem?_eq_some_iff.1 hy).1
  have hcs := h1 i y hy
  have hq : k * 4 + (j * 4 + i) < scale c (3 + 1) := by rw [sc4]; omega
  rw [List.getElem?_drop, List.getElem?_map, List.getElem?_map]
  simp only [flat, List.append_nil, List.getElem?_map, List.getElem?_range hq, Option.map_some]
  have hraw := hr.raw y (List.mem_of_getElem? hcs)
  rw [show k * 4 + (j * 4 + i) = (k + j) * 4 + i by omega, nthC_get? hcs, rz_raw hraw]
theorem good_snocT : ∀ {es : List Ev} {last : BitVec 64} {x : Ev}, GoodL last es → (∀ e ∈ es, e.k ≠ 19#8) → GoodE (lastT last es) x → GoodL last (es ++ [x])
  | [], _, _, _, _, hx => ⟨hx, fun _ => rfl, trivial⟩
  | e :: r, last, x, ⟨h1, _, h3⟩, hk, hx => ⟨h1, fun h => absurd h (hk e (List.mem_cons_self ..)), good_snocT h3 (fun y hy => hk y (List.mem_cons_of_mem _ hy)) hx⟩
theorem LogOk.snoc {lim : Int} {m : List Ev} {e : Ev} (h : LogOk lim m false) (hc : checkM e = 0) (ht : ¬ e.t < lastT 0#64 m) : GoodL 0#64 (m ++ [e]) :=
  good_snocT h.good (h.open_ rfl).1 (good_of hc ht)
theorem LogOk.next {lim : Int} {m : List Ev} {e : Ev} (h : LogOk lim m false) (hc : checkM e = 0) (ht : ¬ e.t < lastT 0#64 m) (hk : e.k ≠ 19#8) (hl : ¬ lim ≤ (m.length : Int) + 1) : LogOk lim (m ++ [e]) false :=
  ⟨h.snoc hc ht, fun _ => ⟨fun x hx => by
    rcases List.mem_append.1 hx with hx | hx
    · exact (h.open_ rfl).1 x hx
    · simp at hx; subst hx; exact hk, by rw [List.length_append, List.length_singleton]; push_cast; omega⟩⟩
theorem LogOk.full {lim : Int} {m : List Ev} {e : Ev} (h : LogOk lim m false) (hc : checkM e = 0) (ht : ¬ e.t < lastT 0#64 m) : LogOk lim (m ++ [⟨19#8, e.t, [], []⟩]) true := by
  refine ⟨good_snocT h.good (h.open_ rfl).1 ?_, fun h => by cases h⟩
  have hg := good_of hc ht
  exact ⟨rfl, hg.lo, hg.hi, rfl, (fun n hn => by cases hn), Nat.zero_le _, fun _ => rfl⟩
set_option maxRecDepth 20000 in
set_option maxHeartbeats 64000000 in
theorem fn_blogLogs {W : World} {ms : List Nat} (most : Int) {a : Option Addr} {n c : Nat} {es : List Ev} (h : EvsAt W ms a n c es) {aK : Option Addr} {nK cK : Nat} {ks : Bs} (hK : BsAt W ms aK nK cK ks) {aB : Option Addr} {nB cB : Nat} {bs : List Bool} (hB : BoAt W ms aB nB cB bs) :
    FnR Try.prog tds 6 1 [[.past W ms]] [.c (.int .i64 most), .c (.slc a n c), .c (.slc aK nK cK), .c (.slc aB nB cB)] (fun _ => True)
    (fun y hs => y = .a (.c (.bool true))) := by
  have hlen := h.len
  refine fn_of_body tds_ok follows_ Try.func6 rfl (t := .a (.c (.int .i64 most)) :: .a (.c (.slc a n c)) :: .a (.c (.slc aK nK cK)) :: .a (.c (.slc aB nB cB)) :: anys (Try.f6.ntmps - 4)) rfl (fun w r0 hr _ => ?_)
  obtain ⟨x0, rfl⟩ := List.length_eq_one_iff.1 hr
  (repeat first | (refine And.intro ?_ ?_; first | exact rfl | ((exact fun h => absurd h (by first | decide)); intro yy; clear yy) | (rotate_left; (exact fun h => absurd h (by first | decide)); intro yy; clear yy) | decide | omega) | (with_reducible refine frc_bytesL (by first | omega | decide) ?_) | (with_reducible refine frc_bytesM (by first | omega | decide) ?_))
  refine call_same (fn_bawake (W := W) (ms := ms)) [0] rfl (by (repeat first | exact trivial | refine ent1 ?_)) (by (repeat first | exact trivial | refine ent1 ?_)) (fun _ _ => trivial) ?_
  rintro y hs' ⟨rfl, rfl⟩
  (repeat first | (refine And.intro ?_ ?_; first | exact rfl | ((exact fun h => absurd h (by first | decide)); intro yy; clear yy) | (rotate_left; (exact fun h => absurd h (by first | decide)); intro yy; clear yy) | decide | omega) | (with_reducible refine frc_bytesL (by first | omega | decide) ?_) | (with_reducible refine frc_bytesM (by first | omega | decide) ?_))
  refine call_same (fn_light h) [0] rfl (by (repeat first | exact trivial | refine ent1 ?_)) (by (repeat first | exact trivial | refine ent1 ?_)) (fun _ _ => trivial) ?_
  rintro y hs' ⟨rfl, rfl⟩
  cases hL : lightE es with
  | false =>
    (repeat first | (refine And.intro ?_ ?_; first | exact rfl | ((exact fun h => absurd h (by first | decide)); intro yy; clear yy) | (rotate_left; (exact fun h => absurd h (by first | decide)); intro yy; clear yy) | decide | omega) | (with_reducible refine frc_bytesL (by first | omega | decide) ?_) | (with_reducible refine frc_bytesM (by first | omega | decide) ?_))
    refine ⟨.a (.c (.bool true)), [[.past W ms]], ⟨[0], ⟨rfl, rfl, rfl⟩, ?_⟩, rfl⟩
    (repeat first | exact trivial | refine ent1 ?_)
  | true =>
  have hl2 : (∀ e ∈ es, e.N.length ≤ 30 ∧ e.D.length ≤ 100) ∧ es.length ≤ 60 := by
    unfold lightE at hL
    rw [Bool.and_eq_true] at hL
    exact ⟨of_decide_eq_true hL.1, of_decide_eq_true hL.2⟩
  (repeat first | (refine And.intro ?_ ?_; first | exact rfl | ((exact fun h => absurd h (by first | decide)); intro yy; clear yy) | (rotate_left; (exact fun h => absurd h (by first | decide)); intro yy; clear yy) | decide | omega) | (with_reducible refine frc_bytesL (by first | omega | decide) ?_) | (with_reducible refine frc_bytesM (by first | omega | decide) ?_))
  refine call_same (fn_lnew most) [] rfl (by (repeat first | exact trivial | refine ent1 ?_)) trivial (fun _ _ => trivial) ?_
  rintro y hs' ⟨rfl, rfl⟩
  obtain ⟨lim, hlim⟩ : ∃ lim, min (max most 1) 2048 = lim := ⟨_, rfl⟩
  have hlim1 : 0 < lim := by omega
  have hlim2 : lim ≤ 2048 := by omega
  rw [hlim]
  (repeat first | (refine And.intro ?_ ?_; first | exact rfl | ((exact fun h => absurd h (by first | decide)); intro yy; clear yy) | (rotate_left; (exact fun h => absurd h (by first | decide)); intro yy; clear yy) | decide | omega) | (with_reducible refine frc_bytesL (by first | omega | decide) ?_) | (with_reducible refine frc_bytesM (by first | omega | decide) ?_))
  refine .inl ⟨LX, fun x => match x with
    | .inl (W', ms', dr, i) => ⟨[.a (.c (.int .i64 (most))), .a (.c (.slc a n c)), .a (.c (.slc aK nK cK)), .a (.c (.slc aB nB cB)), .any, .any, .any, .any, .any, .a (.c (.int .i64 (lim))), .a (.c (.p 1 0 0)), .a (.c (.slc none 0 0)), .a (.c (.bool false)), .a (.c (.int .i64 ((dr : Nat)))), .any, .any, .any, .any, .any, .any, .any, .any, .any, .any, .any, .any, .any, .any, .any, .any, .any, .any, .any, .any, .any, .any, .any, .any, .a (.c (.slc a n c)), .a (.c (.int .i64 ((n : Nat)))), .a (.c (.int .i64 ((i : Nat)))), .any, .any, .any, .any, .any, .any, .any, .any, .any, .any, .any, .any, .any, .any, .any, .any, .any, .any, .any, .any, .any, .any, .any, .any, .any, .any, .any, .any, .any, .any, .any, .any, .any, .any, .any, .any, .any, .any, .any, .any, .any, .any, .any, .any, .any, .any, .any, .any, .any, .any, .any, .any, .any, .any, .any, .any, .any, .any, .any, .any, .any, .any, .any, .any, .any, .any, .any, .any, .any, .any, .any, .any, .any, .any, .any, .any, .any, .any, .any, .any, .any, .any, .any, .any, .any, .any, .any, .any, .any, .any, .any, .any, .any, .any, .any, .any, .any, .any, .any, .any, .any, .any, .any, .any, .any, .any, .any, .any, .any, .any, .any, .any, .any, .any, .any, .any, .any, .any, .any, .any, .any, .any, .any, .any, .any, .any, .any, .any, .any, .any, .any, .any, .any, .any, .any, .any, .any, .any, .any, .any, .any, .any, .any, .any, .any, .any, .any, .any, .any, .any, .any, .any, .any, .any, .any, .any, .any, .any, .any, .any, .any, .any, .any, .any, .any, .any, .any, .any, .any, .any, .any, .any, .any, .any, .any, .any, .any, .any, .any, .any, .any, .any], [[.past W' ms'], logC lim (.slc none 0 0) false (dr : Int)]⟩
    | .inr (W', ms', m, cut, dr, csL, cL, csM, cM, i) => ⟨[.a (.c (.int .i64 (most))), .a (.c (.slc a n c)), .a (.c (.slc aK nK cK)), .a (.c (.slc aB nB cB)), .any, .any, .any, .any, .any, .a (.c (.int .i64 (lim))), .a (.c (.p 1 0 0)), .a (.c (.sl 3 0 0 m.length cM)), .a (.c (.bool cut)), .a (.c (.int .i64 ((dr : Nat)))), .any, .any, .any, .any, .any, .any, .any, .any, .any, .any, .any, .any, .any, .any, .any, .any, .any, .any, .any, .any, .any, .any, .any, .any, .a (.c (.slc a n c)), .a (.c (.int .i64 ((n : Nat)))), .a (.c (.int .i64 ((i : Nat)))), .any, .any, .any, .any, .any, .any, .any, .any, .any, .any, .any, .any, .any, .any, .any, .any, .any, .any, .any, .any, .any, .any, .any, .any, .any, .any, .any, .any, .any, .any, .any, .any, .any, .any, .any, .any, .any, .any, .any, .any, .any, .any, .any, .any, .any, .any, .any, .any, .any, .any, .any, .any, .any, .any, .any, .any, .any, .any, .any, .any, .any, .any, .any, .any, .any, .any, .any, .any, .any, .any, .any, .any, .any, .any, .any, .any, .any, .any, .any, .any, .any, .any, .any, .any, .any, .any, .any, .any, .any, .any, .any, .any, .any, .any, .any, .any, .any, .any, .any, .any, .any, .any, .any, .any, .any, .any, .any, .any, .any, .any, .any, .any, .any, .any, .any, .any, .any, .any, .any, .any, .any, .any, .any, .any, .any, .any, .any, .any, .any, .any, .any, .any, .any, .any, .any, .any, .any, .any, .any, .any, .any, .any, .any, .any, .any, .any, .any, .any, .any, .any, .any, .any, .any, .any, .any, .any, .any, .any, .any, .any, .any, .any, .any, .any, .any, .any, .any, .any, .any, .any, .any, .any, .any, .any, .any, .any, .any, .any, .any, .any, .any, .any], [[.past W' ms'], logC lim (.sl 2 0 0 m.length cL) cut (dr : Int), [.row (scale cL (3 + 1)) (nthC csL)], [.row (scale cM (3 + 1)) (nthC csM)]]⟩,
    fun x => match x with
    | .inl (W', ms', dr, i) => Later W ms W' ms' ∧ i ≤ n ∧ dr ≤ i
    | .inr (W', ms', m, cut, dr, csL, cL, csM, cM, i) => Later W ms W' ms' ∧ i ≤ n ∧ dr ≤ i ∧ 0 < m.length ∧ m.length ≤ i ∧ m.length ≤ cL ∧ m.length ≤ cM ∧ RowAt W' ms' csL m ∧ RowAt W' ms' csM m ∧ LogOk lim m cut,
    fun x => match x with
    | .inl (_, _, _, i) => n - i
    | .inr (_, _, _, _, _, _, _, _, _, i) => n - i, ⟨.inl (W, ms, 0, 0), [0, 1], ⟨⟨rfl, rfl, rfl⟩, ?_⟩, ⟨Later.refl _ _, Nat.zero_le _, Nat.le_refl _⟩⟩, fun x hx => ?_⟩
  · (repeat first | exact trivial | refine ent1 ?_)
  rcases x with ⟨W', ms', dr, i⟩ | ⟨W', ms', m, cut, dr, csL, cL, csM, cM, i⟩
  · obtain ⟨hLL, hin, hdi⟩ : Later W ms W' ms' ∧ i ≤ n ∧ dr ≤ i := hx
    by_cases hi : i < n
    · have ki : decide ((i : Int) < (n : Int)) = true := decide_eq_true (by omega)
      obtain ⟨e, he⟩ : ∃ e, es[i]? = some e := ⟨_, List.getElem?_eq_getElem (by omega)⟩
      have hsm := hl2.1 e (List.mem_of_getElem? he)
      cases ha : a with
      | none => have := h.nil ha; have := h.le; omega
      | some A =>
      subst ha
      obtain ⟨x, him, hx0⟩ := (h.later hLL).elt A rfl i e he
      refine And.intro (fun _ => ?_) (fun hf => absurd (show decide ((i : Int) < (n : Int)) = false from hf) (by rw [ki]; decide))
      refine vc_skip ?_
      refine kseq_n ?_
      refine vc_seq (vc_block ?_)
      refine vc_join4 (fun P => ∀ (W1 : World) (ms1 : List Nat) (e1 : Ev) (x1 : EvC) (v14 v41 v42 v43 v44 v45 v46 v47 v48 v49 v50 v51 v52 v53 v54 v55 v56 v57 v58 v59 v60 v61 v62 v63 v64 v65 v66 v67 v68 v69 v70 v71 : SV), Later W' ms' W1 ms1 → EvAt W1 ms1 x1 e1 → e1.N.length ≤ 1000 → e1.D.length ≤ 1000 → P ⟨[.a (.c (.int .i64 (most))), .a (.c (.slc (some A) n c)), .a (.c (.slc aK nK cK)), .a (.c (.slc aB nB cB)), .any, .any, .any, .any, .any, .a (.c (.int .i64 (lim))), .a (.c (.p 1 0 0)), .a (.c (.slc none 0 0)), .a (.c (.bool false)), .a (.c (.int .i64 ((dr : Nat)))), v14, .a (.c (.p 2 0 0)), .any, .any, .any, .any, .any, .any, .any, .any, .any, .any, .any, .any, .any, .any, .any, .any, .any, .any, .any, .any, .any, .any, .a (.c (.slc (some A) n c)), .a (.c (.int .i64 ((n : Nat)))), .a (.c (.int .i64 ((i : Nat)))), v41, v42, v43, v44, v45, v46, v47, v48, v49, v50, v51, v52, v53, v54, v55, v56, v57, v58, v59, v60, v61, v62, v63, v64, v65, v66, v67, v68, v69, v70, v71, .any, .any, .any, .any, .any, .any, .any, .any, .any, .any, .any, .any, .any, .any, .any, .any, .any, .any, .any, .any, .any, .any, .any, .any, .any, .any, .any, .any, .any, .any, .any, .any, .any, .any, .any, .any, .any, .any, .any, .any, .any, .any, .any, .any, .any, .any, .any, .any, .any, .any, .any, .any, .any, .any, .any, .any, .any, .any, .any, .any, .any, .any, .any, .any, .any, .any, .any, .any, .any, .any, .any, .any, .any, .any, .any, .any, .any, .any, .any, .any, .any, .any, .any, .any, .any, .any, .any, .any, .any, .any, .any, .any, .any, .any, .any, .any, .any, .any, .any, .any, .any, .any, .any, .any, .any, .any, .any, .any, .any, .any, .any, .any, .any, .any, .any, .any, .any, .any, .any, .any, .any, .any, .any, .any, .any, .any, .any, .any, .any, .any, .any, .any, .any, .any, .any, .any, .any, .any, .any, .any, .any, .any, .any, .any, .any, .any, .any, .any, .any, .any, .any], [[.past W1 ms1], logC lim (.slc none 0 0) false (dr : Int), evS e1 x1]⟩) ?_ ?_
      rotate_left
      · intro key
        (repeat first | (refine And.intro ?_ ?_; first | exact rfl | ((exact fun h => absurd h (by first | decide | (rw [ki]; decide))); intro yy; clear yy) | (rotate_left; (exact fun h => absurd h (by first | decide | (rw [ki]; decide))); intro yy; clear yy) | decide | omega) | (with_reducible refine frc_bytesL (by first | omega | decide) ?_) | (with_reducible refine frc_bytesM (by first | omega | decide) ?_))
        refine ⟨evS e x, ⟨RawAt.past (i := 0) rfl him, rfl⟩, ?_⟩
        by_cases hiK : i < nK
        · have kK : decide ((i : Int) < (nK : Int)) = true := decide_eq_true (by omega)
          have hKL := hK.later hLL
          have hcK := hK.le
          have hKl : ks.length = nK := by have := hK.len; simpa using this
          cases haK : aK with
          | none => subst haK; have := hK.nil_.1; omega
          | some AK =>
          subst haK
          by_cases hiB : i < nB
          · have kB : decide ((i : Int) < (nB : Int)) = true := decide_eq_true (by omega)
            have hBl : bs.length = nB := by have := hB.len; simpa using this
            cases haB : aB with
            | none => subst haB; have := hB.nil_.1; omega
            | some AB =>
            subst haB
            have hBL := hB.later hLL
            have hcB := hB.le
            (repeat first | (refine And.intro ?_ ?_; first | exact rfl | ((exact fun h => absurd h (by first | decide | (rw [ki]; decide) | (rw [kK]; decide) | (rw [kB]; decide))); intro yy; clear yy) | (rotate_left; (exact fun h => absurd h (by first | decide | (rw [ki]; decide) | (rw [kK]; decide) | (rw [kB]; decide))); intro yy; clear yy) | decide | omega) | (with_reducible refine frc_bytesL (by first | omega | decide) ?_) | (with_reducible refine frc_bytesM (by first | omega | decide) ?_))
            refine loadR (i := 0) rfl (hBL.im AB rfl (by omega)) (j := i * 1) (map_get? (show bs[i * 1]? = some (bs[i]'(by omega)) by rw [Nat.mul_one, List.getElem?_eq_getElem (by omega)])) ?_
            cases hbi : bs[i]'(by omega) with
            | true =>
              (iterate 5 first | (refine And.intro ?_ ?_; first | exact rfl | ((exact fun h => absurd h (by first | decide | (rw [ki]; decide) | (rw [kK]; decide) | (rw [kB]; decide))); intro yy; clear yy) | (rotate_left; (exact fun h => absurd h (by first | decide | (rw [ki]; decide) | (rw [kK]; decide) | (rw [kB]; decide))); intro yy; clear yy) | decide | omega) | (with_reducible refine frc_bytesL (by first | omega | decide) ?_) | (with_reducible refine frc_bytesM (by first | omega | decide) ?_))
              refine vc_skip ?_
              refine kseq_n ?_
              exact key W' ms' e x _ _ _ _ _ _ _ _ _ _ _ _ _ _ _ _ _ _ _ _ _ _ _ _ _ _ _ _ _ _ _ _ (Later.refl _ _) hx0 (by omega) (by omega)
            | false =>
              (repeat first | (refine And.intro ?_ ?_; first | exact rfl | ((exact fun h => absurd h (by first | decide | (rw [ki]; decide) | (rw [kK]; decide) | (rw [kB]; decide))); intro yy; clear yy) | (rotate_left; (exact fun h => absurd h (by first | decide | (rw [ki]; decide) | (rw [kK]; decide) | (rw [kB]; decide))); intro yy; clear yy) | decide | omega) | (with_reducible refine frc_bytesL (by first | omega | decide) ?_) | (with_reducible refine frc_bytesM (by first | omega | decide) ?_))
              refine ⟨none, [], [(0, true), (1, true), (2, true), (3, true), (4, true), (5, false)], [6], by (show planAny tds _ _ _ _ = true; decide +kernel), ?_⟩
              (repeat first | (refine And.intro ?_ ?_; first | exact rfl | ((exact fun h => absurd h (by first | decide | (rw [ki]; decide) | (rw [kK]; decide))); intro yy; clear yy) | (rotate_left; (exact fun h => absurd h (by first | decide | (rw [ki]; decide) | (rw [kK]; decide))); intro yy; clear yy) | decide | omega) | (with_reducible refine frc_bytesL (by first | omega | decide) ?_) | (with_reducible refine frc_bytesM (by first | omega | decide) ?_))
              refine loadR (i := 0) rfl (hKL.im AK rfl (by omega)) (j := i * 1) (map_get? (show ks[i * 1]? = some (ks[i]'(by omega)) by rw [Nat.mul_one, List.getElem?_eq_getElem (by omega)])) ?_
              (repeat first | (refine And.intro ?_ ?_; first | exact rfl | ((exact fun h => absurd h (by first | decide | (rw [ki]; decide) | (rw [kK]; decide))); intro yy; clear yy) | (rotate_left; (exact fun h => absurd h (by first | decide | (rw [ki]; decide) | (rw [kK]; decide))); intro yy; clear yy) | decide | omega) | (with_reducible refine frc_bytesL (by first | omega | decide) ?_) | (with_reducible refine frc_bytesM (by first | omega | decide) ?_))
              refine call_past (fn_efit hx0 (by omega) (by omega) (ks[i]'(by omega))) 0 [] rfl rfl (by (repeat first | exact trivial | refine ent1 ?_)) (by (repeat first | exact trivial | refine ent1 ?_)) (fun _ _ => trivial) (fun x hs hr => ?_) ?_
              · obtain ⟨W', ms', x', h1, _, _, rfl⟩ := hr
                exact ⟨W', ms', rfl, h1⟩
              rintro y hs' ⟨W1, ms1, x1, hL1, hx1, rfl, rfl⟩
              have hsh := fitE_short e (ks[i]'(by omega)) (by omega)
              generalize fitE e (ks[i]'(by omega)) = z at hx1 hsh ⊢
              refine And.intro rfl ?_
              refine And.intro (show (5000#64 : BitVec 64) ≠ 0 by decide) ?_
              (repeat first | (refine And.intro ?_ ?_; first | exact rfl | ((exact fun h => absurd h (by first | decide | (rw [ki]; decide) | (rw [kK]; decide))); intro yy; clear yy) | (rotate_left; (exact fun h => absurd h (by first | decide | (rw [ki]; decide) | (rw [kK]; decide))); intro yy; clear yy) | decide | omega) | (with_reducible refine frc_bytesL (by first | omega | decide) ?_) | (with_reducible refine frc_bytesM (by first | omega | decide) ?_))
              exact (key W1 ms1 ⟨z.k, z.t % 5000#64, z.N, z.D⟩ x1 _ _ _ _ _ _ _ _ _ _ _ _ _ _ _ _ _ _ _ _ _ _ _ _ _ _ _ _ _ _ _ _ hL1 ⟨hx1.N, hx1.D⟩ (by show z.N.length ≤ 1000; omega) (by show z.D.length ≤ 1000; omega)).2
          · have kB : decide ((i : Int) < (nB : Int)) = false := decide_eq_false (by omega)
            (repeat first | (refine And.intro ?_ ?_; first | exact rfl | ((exact fun h => absurd h (by first | decide | (rw [ki]; decide) | (rw [kK]; decide) | (rw [kB]; decide))); intro yy; clear yy) | (rotate_left; (exact fun h => absurd h (by first | decide | (rw [ki]; decide) | (rw [kK]; decide) | (rw [kB]; decide))); intro yy; clear yy) | decide | omega) | (with_reducible refine frc_bytesL (by first | omega | decide) ?_) | (with_reducible refine frc_bytesM (by first | omega | decide) ?_))
            refine ⟨none, [], [(0, true), (1, true), (2, true), (3, true), (4, true), (5, false)], [6], by (show planAny tds _ _ _ _ = true; decide +kernel), ?_⟩
            (repeat first | (refine And.intro ?_ ?_; first | exact rfl | ((exact fun h => absurd h (by first | decide | (rw [ki]; decide) | (rw [kK]; decide))); intro yy; clear yy) | (rotate_left; (exact fun h => absurd h (by first | decide | (rw [ki]; decide) | (rw [kK]; decide))); intro yy; clear yy) | decide | omega) | (with_reducible refine frc_bytesL (by first | omega | decide) ?_) | (with_reducible refine frc_bytesM (by first | omega | decide) ?_))
            refine loadR (i := 0) rfl (hKL.im AK rfl (by omega)) (j := i * 1) (map_get? (show ks[i * 1]? = some (ks[i]'(by omega)) by rw [Nat.mul_one, List.getElem?_eq_getElem (by omega)])) ?_
            (repeat first | (refine And.intro ?_ ?_; first | exact rfl | ((exact fun h => absurd h (by first | decide | (rw [ki]; decide) | (rw [kK]; decide))); intro yy; clear yy) | (rotate_left; (exact fun h => absurd h (by first | decide | (rw [ki]; decide) | (rw [kK]; decide))); intro yy; clear yy) | decide | omega) | (with_reducible refine frc_bytesL (by first | omega | decide) ?_) | (with_reducible refine frc_bytesM (by first | omega | decide) ?_))
            refine call_past (fn_efit hx0 (by omega) (by omega) (ks[i]'(by omega))) 0 [] rfl rfl (by (repeat first | exact trivial | refine ent1 ?_)) (by (repeat first | exact trivial | refine ent1 ?_)) (fun _ _ => trivial) (fun x hs hr => ?_) ?_
            · obtain ⟨W', ms', x', h1, _, _, rfl⟩ := hr
              exact ⟨W', ms', rfl, h1⟩
            rintro y hs' ⟨W1, ms1, x1, hL1, hx1, rfl, rfl⟩
            have hsh := fitE_short e (ks[i]'(by omega)) (by omega)
            generalize fitE e (ks[i]'(by omega)) = z at hx1 hsh ⊢
            refine And.intro rfl ?_
            refine And.intro (show (5000#64 : BitVec 64) ≠ 0 by decide) ?_
            (repeat first | (refine And.intro ?_ ?_; first | exact rfl | ((exact fun h => absurd h (by first | decide | (rw [ki]; decide) | (rw [kK]; decide))); intro yy; clear yy) | (rotate_left; (exact fun h => absurd h (by first | decide | (rw [ki]; decide) | (rw [kK]; decide))); intro yy; clear yy) | decide | omega) | (with_reducible refine frc_bytesL (by first | omega | decide) ?_) | (with_reducible refine frc_bytesM (by first | omega | decide) ?_))
            exact (key W1 ms1 ⟨z.k, z.t % 5000#64, z.N, z.D⟩ x1 _ _ _ _ _ _ _ _ _ _ _ _ _ _ _ _ _ _ _ _ _ _ _ _ _ _ _ _ _ _ _ _ hL1 ⟨hx1.N, hx1.D⟩ (by show z.N.length ≤ 1000; omega) (by show z.D.length ≤ 1000; omega)).2
        · have kK : decide ((i : Int) < (nK : Int)) = false := decide_eq_false (by omega)
          (iterate 10 first | (refine And.intro ?_ ?_; first | exact rfl | ((exact fun h => absurd h (by first | decide | (rw [ki]; decide) | (rw [kK]; decide))); intro yy; clear yy) | (rotate_left; (exact fun h => absurd h (by first | decide | (rw [ki]; decide) | (rw [kK]; decide))); intro yy; clear yy) | decide | omega) | (with_reducible refine frc_bytesL (by first | omega | decide) ?_) | (with_reducible refine frc_bytesM (by first | omega | decide) ?_))
          refine vc_skip ?_
          refine kseq_n ?_
          exact key W' ms' e x _ _ _ _ _ _ _ _ _ _ _ _ _ _ _ _ _ _ _ _ _ _ _ _ _ _ _ _ _ _ _ _ (Later.refl _ _) hx0 (by omega) (by omega)
      intro W1 ms1 e1 x1 v14 v41 v42 v43 v44 v45 v46 v47 v48 v49 v50 v51 v52 v53 v54 v55 v56 v57 v58 v59 v60 v61 v62 v63 v64 v65 v66 v67 v68 v69 v70 v71 hL1 hx1 hN1 hD1
      have ki : decide ((0 : Int) ≠ 0) = false := by decide
      (repeat first | (refine And.intro ?_ ?_; first | exact rfl | ((exact fun h => absurd h (by first | decide)); intro yy; clear yy) | (rotate_left; (exact fun h => absurd h (by first | decide)); intro yy; clear yy) | decide | omega) | (with_reducible refine frc_bytesL (by first | omega | decide) ?_) | (with_reducible refine frc_bytesM (by first | omega | decide) ?_))
      refine call_same (fn_echeck hx1) [0] rfl (by (repeat first | exact trivial | refine ent1 ?_)) (by (repeat first | exact trivial | refine ent1 ?_)) (fun _ _ => trivial) ?_
      rintro y hs' ⟨rfl, rfl⟩
      by_cases hce : checkM e1 = 0
      rotate_left
      · have k1 : decide (checkM e1 ≠ 0) = true := decide_eq_true hce
        have hadd : addM lim [] false dr e1 = ([], false, dr, checkM e1) := by unfold addM; rw [if_pos hce]
        (repeat first | (refine And.intro ?_ ?_; first | exact rfl | ((exact fun h => absurd h (by first | decide | (rw [k1]; decide))); intro yy; clear yy) | (rotate_left; (exact fun h => absurd h (by first | decide | (rw [k1]; decide))); intro yy; clear yy) | decide | omega) | (with_reducible refine frc_bytesL (by first | omega | decide) ?_) | (with_reducible refine frc_bytesM (by first | omega | decide) ?_))
        refine call_past (fn_ladd0 hx1 lim dr hadd (by omega) hD1 hN1) 0 [1] rfl rfl (by (repeat first | exact trivial | refine ent1 ?_)) (by (repeat first | exact trivial | refine ent1 ?_)) (fun _ _ => trivial) (fun x hs hr => ?_) ?_
        · obtain ⟨W', ms', h1, _, ⟨_, _, rfl⟩ | ⟨_, _, _, _, _, rfl⟩⟩ := hr
          · exact ⟨W', ms', rfl, h1⟩
          · exact ⟨W', ms', rfl, h1⟩
        rintro y hs' ⟨W2, ms2, hL2, rfl, ⟨-, -, rfl⟩ | ⟨csL2, cL2, hrL2, hlen2, hcL2, rfl⟩⟩
        rotate_left
        · exact absurd hlen2 (by first | omega | simp)
        have kw : decide ((checkM e1 : Int) ≠ checkM e1) = false := decide_eq_false fun h => h rfl
        (repeat first | (refine And.intro ?_ ?_; first | exact rfl | ((exact fun h => absurd h (by first | decide | (rw [kw]; decide))); intro yy; clear yy) | (rotate_left; (exact fun h => absurd h (by first | decide | (rw [kw]; decide))); intro yy; clear yy) | decide | omega) | (with_reducible refine frc_bytesL (by first | omega | decide) ?_) | (with_reducible refine frc_bytesM (by first | omega | decide) ?_))
        refine call_same (fn_lfull (W := W2) (ms := ms2) lim false ((dr : Nat) : Int)) [0, 1] rfl (by (repeat first | exact trivial | refine ent1 ?_)) (by (repeat first | exact trivial | refine ent1 ?_)) (fun _ _ => trivial) ?_
        rintro y hsF ⟨rfl, hF⟩
        rw [hF]
        (repeat first | (refine And.intro ?_ ?_; first | exact rfl | ((exact fun h => absurd h (by first | decide | (rw [kw]; decide))); intro yy; clear yy) | (rotate_left; (exact fun h => absurd h (by first | decide | (rw [kw]; decide))); intro yy; clear yy) | decide | omega) | (with_reducible refine frc_bytesL (by first | omega | decide) ?_) | (with_reducible refine frc_bytesM (by first | omega | decide) ?_))
        refine call_same (fn_llist0 (W := W2) (ms := ms2) lim false ((dr : Nat) : Int)) [0, 1] rfl (by (repeat first | exact trivial | refine ent1 ?_)) (by (repeat first | exact trivial | refine ent1 ?_)) (fun _ _ => trivial) ?_
        rintro y hs' ⟨rfl, rfl⟩
        (repeat first | (refine And.intro ?_ ?_; first | exact rfl | ((exact fun h => absurd h (by first | decide)); intro yy; clear yy) | (rotate_left; (exact fun h => absurd h (by first | decide)); intro yy; clear yy) | decide | omega) | (with_reducible refine frc_bytesL (by first | omega | decide) ?_) | (with_reducible refine frc_bytesM (by first | omega | decide) ?_))
        refine call_same (fn_bsame (W := W2) (ms := ms2) EvsAt.nul EvsAt.nul) [0] rfl (by (repeat first | exact trivial | refine ent1 ?_)) (by (repeat first | exact trivial | refine ent1 ?_)) (fun _ _ => trivial) ?_
        rintro y hs' ⟨⟨r, hr1, rfl⟩, rfl⟩
        obtain rfl : r = true := hr1.2 rfl
        (repeat first | (refine And.intro ?_ ?_; first | exact rfl | ((exact fun h => absurd h (by first | decide)); intro yy; clear yy) | (rotate_left; (exact fun h => absurd h (by first | decide)); intro yy; clear yy) | decide | omega) | (with_reducible refine frc_bytesL (by first | omega | decide) ?_) | (with_reducible refine frc_bytesM (by first | omega | decide) ?_))
        refine call_same (fn_llen0 (W := W2) (ms := ms2) lim false ((dr : Nat) : Int)) [0, 1] rfl (by (repeat first | exact trivial | refine ent1 ?_)) (by (repeat first | exact trivial | refine ent1 ?_)) (fun _ _ => trivial) ?_
        rintro y hsF ⟨rfl, hF⟩
        rw [hF]
        have kz : decide ((dr : Int) ≠ (dr : Int)) = false := decide_eq_false fun h => h rfl
        (repeat first | (refine And.intro ?_ ?_; first | exact rfl | ((exact fun h => absurd h (by first | decide | (rw [kz]; decide))); intro yy; clear yy) | (rotate_left; (exact fun h => absurd h (by first | decide | (rw [kz]; decide))); intro yy; clear yy) | decide | omega) | (with_reducible refine frc_bytesL (by first | omega | decide) ?_) | (with_reducible refine frc_bytesM (by first | omega | decide) ?_))
        refine ⟨.inl (W2, ms2, dr, i + 1), [0, 1], ⟨⟨rfl, rfl, rfl⟩, ?_⟩, ⟨(hLL.trans hL1).trans hL2, by omega, by omega⟩, (show n - (i + 1) < n - i by omega)⟩
        (repeat first | exact trivial | refine ent1 ?_)
        done
      rw [hce]
      (repeat first | (refine And.intro ?_ ?_; first | exact rfl | ((exact fun h => absurd h (by first | decide | (rw [ki]; decide))); intro yy; clear yy) | (rotate_left; (exact fun h => absurd h (by first | decide | (rw [ki]; decide))); intro yy; clear yy) | decide | omega) | (with_reducible refine frc_bytesL (by first | omega | decide) ?_) | (with_reducible refine frc_bytesM (by first | omega | decide) ?_))
      have hlog : LogOk lim [] false := ⟨trivial, fun _ => ⟨(fun e he => by cases he), hlim1⟩⟩
      have ht : ¬ e1.t < lastT 0#64 [] := by show ¬ e1.t < 0#64; rw [BitVec.lt_def]; exact Nat.not_lt_zero _
      refine ⟨none, [], [(0, true), (1, true), (2, true), (3, true), (4, true), (5, true), (6, true), (7, true), (8, true), (9, true), (10, true), (11, true), (12, true), (13, true), (14, true), (15, true)], [], by kernel_rfl, ?_⟩
      (repeat first | (refine And.intro ?_ ?_; first | exact rfl | ((exact fun h => absurd h (by first | decide | (rw [ki]; decide))); intro yy; clear yy) | (rotate_left; (exact fun h => absurd h (by first | decide | (rw [ki]; decide))); intro yy; clear yy) | decide | omega) | (with_reducible refine frc_bytesL (by first | omega | decide) ?_) | (with_reducible refine frc_bytesM (by first | omega | decide) ?_))
      by_cases hk : e1.k = 19#8
      · have kk : decide (e1.k = 19#8) = true := decide_eq_true hk
        have hadd : addM lim ([] : List Ev) false dr e1 = (([] : List Ev), false, dr, 5) := by unfold addM; rw [if_neg (by omega), if_neg (by decide), if_neg ht, if_pos hk]
        (repeat first | (refine And.intro ?_ ?_; first | exact rfl | ((exact fun h => absurd h (by first | decide | (rw [ki]; decide) | (rw [kk]; decide))); intro yy; clear yy) | (rotate_left; (exact fun h => absurd h (by first | decide | (rw [ki]; decide) | (rw [kk]; decide))); intro yy; clear yy) | decide | omega) | (with_reducible refine frc_bytesL (by first | omega | decide) ?_) | (with_reducible refine frc_bytesM (by first | omega | decide) ?_))
        refine call_past (fn_ladd0 hx1 lim dr hadd (by omega) hD1 hN1) 0 [1] rfl rfl (by (repeat first | exact trivial | refine ent1 ?_)) (by (repeat first | exact trivial | refine ent1 ?_)) (fun _ _ => trivial) (fun x hs hr => ?_) ?_
        · obtain ⟨W', ms', h1, _, ⟨_, _, rfl⟩ | ⟨_, _, _, _, _, rfl⟩⟩ := hr
          · exact ⟨W', ms', rfl, h1⟩
          · exact ⟨W', ms', rfl, h1⟩
        rintro y hs' ⟨W2, ms2, hL2, rfl, ⟨-, -, rfl⟩ | ⟨csL2, cL2, hrL2, hlen2, hcL2, rfl⟩⟩
        rotate_left
        · exact absurd hlen2 (by first | omega | simp)
        have kw : decide ((5 : Int) ≠ 5) = false := decide_eq_false fun h => h rfl
        (repeat first | (refine And.intro ?_ ?_; first | exact rfl | ((exact fun h => absurd h (by first | decide | (rw [kw]; decide))); intro yy; clear yy) | (rotate_left; (exact fun h => absurd h (by first | decide | (rw [kw]; decide))); intro yy; clear yy) | decide | omega) | (with_reducible refine frc_bytesL (by first | omega | decide) ?_) | (with_reducible refine frc_bytesM (by first | omega | decide) ?_))
        refine call_same (fn_lfull (W := W2) (ms := ms2) lim false ((dr : Nat) : Int)) [0, 1] rfl (by (repeat first | exact trivial | refine ent1 ?_)) (by (repeat first | exact trivial | refine ent1 ?_)) (fun _ _ => trivial) ?_
        rintro y hsF ⟨rfl, hF⟩
        rw [hF]
        (repeat first | (refine And.intro ?_ ?_; first | exact rfl | ((exact fun h => absurd h (by first | decide | (rw [kw]; decide))); intro yy; clear yy) | (rotate_left; (exact fun h => absurd h (by first | decide | (rw [kw]; decide))); intro yy; clear yy) | decide | omega) | (with_reducible refine frc_bytesL (by first | omega | decide) ?_) | (with_reducible refine frc_bytesM (by first | omega | decide) ?_))
        refine call_same (fn_llist0 (W := W2) (ms := ms2) lim false ((dr : Nat) : Int)) [0, 1] rfl (by (repeat first | exact trivial | refine ent1 ?_)) (by (repeat first | exact trivial | refine ent1 ?_)) (fun _ _ => trivial) ?_
        rintro y hs' ⟨rfl, rfl⟩
        (repeat first | (refine And.intro ?_ ?_; first | exact rfl | ((exact fun h => absurd h (by first | decide)); intro yy; clear yy) | (rotate_left; (exact fun h => absurd h (by first | decide)); intro yy; clear yy) | decide | omega) | (with_reducible refine frc_bytesL (by first | omega | decide) ?_) | (with_reducible refine frc_bytesM (by first | omega | decide) ?_))
        refine call_same (fn_bsame (W := W2) (ms := ms2) EvsAt.nul EvsAt.nul) [0] rfl (by (repeat first | exact trivial | refine ent1 ?_)) (by (repeat first | exact trivial | refine ent1 ?_)) (fun _ _ => trivial) ?_
        rintro y hs' ⟨⟨r, hr1, rfl⟩, rfl⟩
        obtain rfl : r = true := hr1.2 rfl
        (repeat first | (refine And.intro ?_ ?_; first | exact rfl | ((exact fun h => absurd h (by first | decide)); intro yy; clear yy) | (rotate_left; (exact fun h => absurd h (by first | decide)); intro yy; clear yy) | decide | omega) | (with_reducible refine frc_bytesL (by first | omega | decide) ?_) | (with_reducible refine frc_bytesM (by first | omega | decide) ?_))
        refine call_same (fn_llen0 (W := W2) (ms := ms2) lim false ((dr : Nat) : Int)) [0, 1] rfl (by (repeat first | exact trivial | refine ent1 ?_)) (by (repeat first | exact trivial | refine ent1 ?_)) (fun _ _ => trivial) ?_
        rintro y hsF ⟨rfl, hF⟩
        rw [hF]
        have kz : decide ((dr : Int) ≠ (dr : Int)) = false := decide_eq_false fun h => h rfl
        (repeat first | (refine And.intro ?_ ?_; first | exact rfl | ((exact fun h => absurd h (by first | decide | (rw [kz]; decide))); intro yy; clear yy) | (rotate_left; (exact fun h => absurd h (by first | decide | (rw [kz]; decide))); intro yy; clear yy) | decide | omega) | (with_reducible refine frc_bytesL (by first | omega | decide) ?_) | (with_reducible refine frc_bytesM (by first | omega | decide) ?_))
        refine ⟨.inl (W2, ms2, dr, i + 1), [0, 1], ⟨⟨rfl, rfl, rfl⟩, ?_⟩, ⟨(hLL.trans hL1).trans hL2, by omega, by omega⟩, (show n - (i + 1) < n - i by omega)⟩
        (repeat first | exact trivial | refine ent1 ?_)
        done
      have kk : decide (e1.k = 19#8) = false := decide_eq_false hk
      by_cases hl : lim ≤ (([] : List Ev).length : Int) + 1
      · have hlt := (hlog.open_ rfl).2
        have kl : decide (((0 : Nat) : Int) = lim - 1) = true := decide_eq_true (by have hl1 : lim ≤ ((0 : Nat) : Int) + 1 := hl; omega)
        have hadd : addM lim ([] : List Ev) false dr e1 = (([] : List Ev) ++ [⟨19#8, e1.t, [], []⟩], true, dr + 1, 11) := by unfold addM; rw [if_neg (by omega), if_neg (by decide), if_neg ht, if_neg hk, if_pos hl]
        (repeat first | (refine And.intro ?_ ?_; first | exact rfl | ((exact fun h => absurd h (by first | decide | (rw [ki]; decide) | (rw [kk]; decide) | (rw [kl]; decide))); intro yy; clear yy) | (rotate_left; (exact fun h => absurd h (by first | decide | (rw [ki]; decide) | (rw [kk]; decide) | (rw [kl]; decide))); intro yy; clear yy) | decide | omega) | (with_reducible refine frc_bytesL (by first | omega | decide) ?_) | (with_reducible refine frc_bytesM (by first | omega | decide) ?_))
        refine And.intro (show 0 + 4 ≤ 4 by decide) ?_
        (repeat first | (refine And.intro ?_ ?_; first | exact rfl | ((exact fun h => absurd h (by first | decide | (rw [ki]; decide))); intro yy; clear yy) | (rotate_left; (exact fun h => absurd h (by first | decide | (rw [ki]; decide))); intro yy; clear yy) | decide | omega) | (with_reducible refine frc_bytesL (by first | omega | decide) ?_) | (with_reducible refine frc_bytesM (by first | omega | decide) ?_))
        intro cM2 hcM2
        (repeat first | (refine And.intro ?_ ?_; first | exact rfl | ((exact fun h => absurd h (by first | decide | (rw [ki]; decide))); intro yy; clear yy) | (rotate_left; (exact fun h => absurd h (by first | decide | (rw [ki]; decide))); intro yy; clear yy) | decide | omega) | (with_reducible refine frc_bytesL (by first | omega | decide) ?_) | (with_reducible refine frc_bytesM (by first | omega | decide) ?_))
        have hRM1 : RowAt W1 ms1 ([] ++ flat (evS ⟨19#8, e1.t, [], []⟩ ⟨none, 0, 0, none, 0, 0⟩)) (([] : List Ev) ++ [⟨19#8, e1.t, [], []⟩]) := (RowAt.nil (W := W1) (ms := ms1)).snoc ⟨SlAt.nul, SlAt.nul⟩
        refine call_past (fn_ladd0 hx1 lim dr hadd (by omega) hD1 hN1) 0 [1] rfl rfl (by (repeat first | exact trivial | refine ent1 ?_)) (by (repeat first | exact trivial | refine ent1 ?_)) (fun _ _ => trivial) (fun x hs hr => ?_) ?_
        · obtain ⟨W', ms', h1, _, ⟨_, _, rfl⟩ | ⟨_, _, _, _, _, rfl⟩⟩ := hr
          · exact ⟨W', ms', rfl, h1⟩
          · exact ⟨W', ms', rfl, h1⟩
        rintro y hs' ⟨W2, ms2, hL2, rfl, ⟨hbad, _, _⟩ | ⟨csL2, cL2, hrL2, hlen2, hcL2, rfl⟩⟩
        · exact absurd (congrArg List.length hbad) (by simp)
        have hRM2 := hRM1.later hL2
        have kw : decide ((11 : Int) ≠ 11) = false := decide_eq_false fun h => h rfl
        (repeat first | (refine And.intro ?_ ?_; first | exact rfl | ((exact fun h => absurd h (by first | decide | (rw [kw]; decide))); intro yy; clear yy) | (rotate_left; (exact fun h => absurd h (by first | decide | (rw [kw]; decide))); intro yy; clear yy) | decide | omega) | (with_reducible refine frc_bytesL (by first | omega | decide) ?_) | (with_reducible refine frc_bytesM (by first | omega | decide) ?_))
        rw [mp_row hrL2.raw]
        refine call_same (fn_lfull (W := W2) (ms := ms2) lim true (((dr + 1) : Nat) : Int)) [0, 1] rfl (by (repeat first | exact trivial | refine ent1 ?_)) (by (repeat first | exact trivial | refine ent1 ?_)) (fun _ _ => trivial) ?_
        rintro y hsF ⟨rfl, hF⟩
        rw [hF]
        (repeat first | (refine And.intro ?_ ?_; first | exact rfl | ((exact fun h => absurd h (by first | decide | (rw [kw]; decide))); intro yy; clear yy) | (rotate_left; (exact fun h => absurd h (by first | decide | (rw [kw]; decide))); intro yy; clear yy) | decide | omega) | (with_reducible refine frc_bytesL (by first | omega | decide) ?_) | (with_reducible refine frc_bytesM (by first | omega | decide) ?_))
        refine call_past (fn_llist1 hrL2 hlen2 (by omega) (by omega) hcL2 (GoodL.small (LogOk.full hlog hce ht).good) lim true (((dr + 1) : Nat) : Int)) 0 [1, 5] rfl rfl (by (repeat first | exact trivial | refine ent1 ?_)) (by (repeat first | exact trivial | refine ent1 ?_); refine ⟨fun j _ => eqC_cs hrL2.raw (fun _ _ => rfl) j, ?_⟩; (repeat first | exact trivial | refine ent1 ?_)) (fun _ _ => trivial) (fun x hs hr => ?_) ?_
        · obtain ⟨a', c', W', ms', h1, _, _, rfl⟩ := hr
          exact ⟨W', ms', rfl, h1⟩
        rintro y hs' ⟨a3, c3, W3, ms3, hL3, hE3, rfl, rfl⟩
        have hRM3 := hRM2.later hL3
        have hrL3 := hrL2.later hL3
        (repeat first | (refine And.intro ?_ ?_; first | exact rfl | ((exact fun h => absurd h (by first | decide | (rw [kw]; decide))); intro yy; clear yy) | (rotate_left; (exact fun h => absurd h (by first | decide | (rw [kw]; decide))); intro yy; clear yy) | decide | omega) | (with_reducible refine frc_bytesL (by first | omega | decide) ?_) | (with_reducible refine frc_bytesM (by first | omega | decide) ?_))
        refine call_lend [4] 0 [] rfl rfl (by (repeat first | exact trivial | refine ent1 ?_)) NoP.nil (fun _ _ => trivial) (fun W' ms' α hL' hI => ⟨[.c (.slc a3 1 c3), .c (.slc (some ((α 4).add (0 + 0))) 1 cM2)], ?_, (fn_bsame (hE3.later hL') (hRM3.frzF (F := fun j => memB j [4]) (n := 1) (c := cM2) hL' (by exact fun j hj => new_cs (new := [] ++ flat (evS ⟨19#8, e1.t, [], []⟩ ⟨none, 0, 0, none, 0, 0⟩)) rfl (fun j hj => updN_new hj) j hj) (hI 4 rfl) hlen2 hcM2 (by omega))).mono (Res' := fun y hs => y = .a (.c (.bool true)) ∧ hs.drop 1 = []) (fun x hs hr => ?_)⟩) (fun x hs hr => ?_) ?_
        · (repeat first | exact trivial | refine ent1 ?_)
        · obtain ⟨⟨r, hr, rfl⟩, rfl⟩ := hr
          have hr1 : r = true := hr.2 rfl
          subst hr1
          exact ⟨rfl, rfl⟩
        · rw [hr.2]; exact NoP.nil
        rintro y hs' ⟨rfl, hdrop⟩
        rw [hdrop]
        (repeat first | (refine And.intro ?_ ?_; first | exact rfl | ((exact fun h => absurd h (by first | decide | (rw [kw]; decide))); intro yy; clear yy) | (rotate_left; (exact fun h => absurd h (by first | decide | (rw [kw]; decide))); intro yy; clear yy) | decide | omega) | (with_reducible refine frc_bytesL (by first | omega | decide) ?_) | (with_reducible refine frc_bytesM (by first | omega | decide) ?_))
        refine call_same (fn_llen1 (W := W3) (ms := ms3) lim true (((dr + 1) : Nat) : Int) 1 cL2 []) [0, 1, 5] rfl (by (repeat first | exact trivial | refine ent1 ?_)) (by (repeat first | exact trivial | refine ent1 ?_)) (fun _ _ => trivial) ?_
        rintro y hsF ⟨rfl, hF⟩
        rw [hF]
        have kz : decide ((((dr + 1) : Nat) : Int) ≠ (((dr + 1) : Nat) : Int)) = false := decide_eq_false fun h => h rfl
        have kz2 : decide (((dr + 1 : Nat) : Int) ≠ (dr : Int) + 1) = false := decide_eq_false fun h => h (by omega)
        have ky : decide (((1 : Nat) : Int) ≠ ((1 : Nat) : Int)) = false := decide_eq_false fun h => h rfl
        (repeat first | (refine And.intro ?_ ?_; first | exact rfl | ((exact fun h => absurd h (by first | decide | (rw [kz]; decide) | (rw [ky]; decide) | (rw [kz2]; decide))); intro yy; clear yy) | (rotate_left; (exact fun h => absurd h (by first | decide | (rw [kz]; decide) | (rw [ky]; decide) | (rw [kz2]; decide))); intro yy; clear yy) | decide | omega) | (with_reducible refine frc_bytesL (by first | omega | decide) ?_) | (with_reducible refine frc_bytesM (by first | omega | decide) ?_))
        refine ⟨.inr (W3, ms3, (([] : List Ev) ++ [⟨19#8, e1.t, [], []⟩]), true, (dr + 1), csL2, cL2, ([] ++ flat (evS ⟨19#8, e1.t, [], []⟩ ⟨none, 0, 0, none, 0, 0⟩)), cM2, i + 1), [0, 1, 5, 4], ⟨⟨rfl, rfl, rfl⟩, ?_⟩, ⟨((hLL.trans hL1).trans hL2).trans hL3, by omega, by omega, by omega, by omega, by omega, by omega, hrL3, hRM3, LogOk.full hlog hce ht⟩, (show n - (i + 1) < n - i by omega)⟩
        (repeat first | exact trivial | refine ent1 ?_)
        refine ⟨fun j _ => eqC_cs hrL3.raw (fun _ _ => rfl) j, ?_⟩
        (repeat first | exact trivial | refine ent1 ?_)
        refine ⟨fun j _ => eqC_cs hRM3.raw ?_ j, ?_⟩
        · exact (by exact fun j hj => new_cs (new := [] ++ flat (evS ⟨19#8, e1.t, [], []⟩ ⟨none, 0, 0, none, 0, 0⟩)) rfl (fun j hj => updN_new hj) j hj)
        (repeat first | exact trivial | refine ent1 ?_)
      · have kl : decide (((0 : Nat) : Int) = lim - 1) = false := decide_eq_false (by have hl1 : ¬ lim ≤ ((0 : Nat) : Int) + 1 := hl; omega)
        have hadd : addM lim ([] : List Ev) false dr e1 = (([] : List Ev) ++ [e1], false, dr, 0) := by unfold addM; rw [if_neg (by omega), if_neg (by decide), if_neg ht, if_neg hk, if_neg hl]
        (repeat first | (refine And.intro ?_ ?_; first | exact rfl | ((exact fun h => absurd h (by first | decide | (rw [ki]; decide) | (rw [kk]; decide) | (rw [kl]; decide))); intro yy; clear yy) | (rotate_left; (exact fun h => absurd h (by first | decide | (rw [ki]; decide) | (rw [kk]; decide) | (rw [kl]; decide))); intro yy; clear yy) | decide | omega) | (with_reducible refine frc_bytesL (by first | omega | decide) ?_) | (with_reducible refine frc_bytesM (by first | omega | decide) ?_))
        refine And.intro (show 0 + 4 ≤ 4 by decide) ?_
        (repeat first | (refine And.intro ?_ ?_; first | exact rfl | ((exact fun h => absurd h (by first | decide | (rw [ki]; decide))); intro yy; clear yy) | (rotate_left; (exact fun h => absurd h (by first | decide | (rw [ki]; decide))); intro yy; clear yy) | decide | omega) | (with_reducible refine frc_bytesL (by first | omega | decide) ?_) | (with_reducible refine frc_bytesM (by first | omega | decide) ?_))
        intro cM2 hcM2
        (repeat first | (refine And.intro ?_ ?_; first | exact rfl | ((exact fun h => absurd h (by first | decide | (rw [ki]; decide))); intro yy; clear yy) | (rotate_left; (exact fun h => absurd h (by first | decide | (rw [ki]; decide))); intro yy; clear yy) | decide | omega) | (with_reducible refine frc_bytesL (by first | omega | decide) ?_) | (with_reducible refine frc_bytesM (by first | omega | decide) ?_))
        have hRM1 : RowAt W1 ms1 ([] ++ flat (evS e1 x1)) (([] : List Ev) ++ [e1]) := (RowAt.nil (W := W1) (ms := ms1)).snoc hx1
        refine call_past (fn_ladd0 hx1 lim dr hadd (by omega) hD1 hN1) 0 [1] rfl rfl (by (repeat first | exact trivial | refine ent1 ?_)) (by (repeat first | exact trivial | refine ent1 ?_)) (fun _ _ => trivial) (fun x hs hr => ?_) ?_
        · obtain ⟨W', ms', h1, _, ⟨_, _, rfl⟩ | ⟨_, _, _, _, _, rfl⟩⟩ := hr
          · exact ⟨W', ms', rfl, h1⟩
          · exact ⟨W', ms', rfl, h1⟩
        rintro y hs' ⟨W2, ms2, hL2, rfl, ⟨hbad, _, _⟩ | ⟨csL2, cL2, hrL2, hlen2, hcL2, rfl⟩⟩
        · exact absurd (congrArg List.length hbad) (by simp)
        have hRM2 := hRM1.later hL2
        have kw : decide ((0 : Int) ≠ 0) = false := decide_eq_false fun h => h rfl
        (repeat first | (refine And.intro ?_ ?_; first | exact rfl | ((exact fun h => absurd h (by first | decide | (rw [kw]; decide))); intro yy; clear yy) | (rotate_left; (exact fun h => absurd h (by first | decide | (rw [kw]; decide))); intro yy; clear yy) | decide | omega) | (with_reducible refine frc_bytesL (by first | omega | decide) ?_) | (with_reducible refine frc_bytesM (by first | omega | decide) ?_))
        rw [mp_row hrL2.raw]
        refine call_same (fn_lfull (W := W2) (ms := ms2) lim false ((dr : Nat) : Int)) [0, 1] rfl (by (repeat first | exact trivial | refine ent1 ?_)) (by (repeat first | exact trivial | refine ent1 ?_)) (fun _ _ => trivial) ?_
        rintro y hsF ⟨rfl, hF⟩
        rw [hF]
        (repeat first | (refine And.intro ?_ ?_; first | exact rfl | ((exact fun h => absurd h (by first | decide | (rw [kw]; decide))); intro yy; clear yy) | (rotate_left; (exact fun h => absurd h (by first | decide | (rw [kw]; decide))); intro yy; clear yy) | decide | omega) | (with_reducible refine frc_bytesL (by first | omega | decide) ?_) | (with_reducible refine frc_bytesM (by first | omega | decide) ?_))
        refine call_past (fn_llist1 hrL2 hlen2 (by omega) (by omega) hcL2 (GoodL.small (LogOk.next hlog hce ht hk hl).good) lim false ((dr : Nat) : Int)) 0 [1, 5] rfl rfl (by (repeat first | exact trivial | refine ent1 ?_)) (by (repeat first | exact trivial | refine ent1 ?_); refine ⟨fun j _ => eqC_cs hrL2.raw (fun _ _ => rfl) j, ?_⟩; (repeat first | exact trivial | refine ent1 ?_)) (fun _ _ => trivial) (fun x hs hr => ?_) ?_
        · obtain ⟨a', c', W', ms', h1, _, _, rfl⟩ := hr
          exact ⟨W', ms', rfl, h1⟩
        rintro y hs' ⟨a3, c3, W3, ms3, hL3, hE3, rfl, rfl⟩
        have hRM3 := hRM2.later hL3
        have hrL3 := hrL2.later hL3
        (repeat first | (refine And.intro ?_ ?_; first | exact rfl | ((exact fun h => absurd h (by first | decide | (rw [kw]; decide))); intro yy; clear yy) | (rotate_left; (exact fun h => absurd h (by first | decide | (rw [kw]; decide))); intro yy; clear yy) | decide | omega) | (with_reducible refine frc_bytesL (by first | omega | decide) ?_) | (with_reducible refine frc_bytesM (by first | omega | decide) ?_))
        refine call_lend [4] 0 [] rfl rfl (by (repeat first | exact trivial | refine ent1 ?_)) NoP.nil (fun _ _ => trivial) (fun W' ms' α hL' hI => ⟨[.c (.slc a3 1 c3), .c (.slc (some ((α 4).add (0 + 0))) 1 cM2)], ?_, (fn_bsame (hE3.later hL') (hRM3.frzF (F := fun j => memB j [4]) (n := 1) (c := cM2) hL' (by exact fun j hj => new_cs (new := [] ++ flat (evS e1 x1)) rfl (fun j hj => updN_new hj) j hj) (hI 4 rfl) hlen2 hcM2 (by omega))).mono (Res' := fun y hs => y = .a (.c (.bool true)) ∧ hs.drop 1 = []) (fun x hs hr => ?_)⟩) (fun x hs hr => ?_) ?_
        · (repeat first | exact trivial | refine ent1 ?_)
        · obtain ⟨⟨r, hr, rfl⟩, rfl⟩ := hr
          have hr1 : r = true := hr.2 rfl
          subst hr1
          exact ⟨rfl, rfl⟩
        · rw [hr.2]; exact NoP.nil
        rintro y hs' ⟨rfl, hdrop⟩
        rw [hdrop]
        (repeat first | (refine And.intro ?_ ?_; first | exact rfl | ((exact fun h => absurd h (by first | decide | (rw [kw]; decide))); intro yy; clear yy) | (rotate_left; (exact fun h => absurd h (by first | decide | (rw [kw]; decide))); intro yy; clear yy) | decide | omega) | (with_reducible refine frc_bytesL (by first | omega | decide) ?_) | (with_reducible refine frc_bytesM (by first | omega | decide) ?_))
        refine call_same (fn_llen1 (W := W3) (ms := ms3) lim false ((dr : Nat) : Int) 1 cL2 []) [0, 1, 5] rfl (by (repeat first | exact trivial | refine ent1 ?_)) (by (repeat first | exact trivial | refine ent1 ?_)) (fun _ _ => trivial) ?_
        rintro y hsF ⟨rfl, hF⟩
        rw [hF]
        have kz : decide (((dr : Nat) : Int) ≠ ((dr : Nat) : Int)) = false := decide_eq_false fun h => h rfl
        have kz2 : decide (((dr + 1 : Nat) : Int) ≠ (dr : Int) + 1) = false := decide_eq_false fun h => h (by omega)
        have ky : decide (((1 : Nat) : Int) ≠ ((1 : Nat) : Int)) = false := decide_eq_false fun h => h rfl
        (repeat first | (refine And.intro ?_ ?_; first | exact rfl | ((exact fun h => absurd h (by first | decide | (rw [kz]; decide) | (rw [ky]; decide) | (rw [kz2]; decide))); intro yy; clear yy) | (rotate_left; (exact fun h => absurd h (by first | decide | (rw [kz]; decide) | (rw [ky]; decide) | (rw [kz2]; decide))); intro yy; clear yy) | decide | omega) | (with_reducible refine frc_bytesL (by first | omega | decide) ?_) | (with_reducible refine frc_bytesM (by first | omega | decide) ?_))
        refine ⟨.inr (W3, ms3, (([] : List Ev) ++ [e1]), false, dr, csL2, cL2, ([] ++ flat (evS e1 x1)), cM2, i + 1), [0, 1, 5, 4], ⟨⟨rfl, rfl, rfl⟩, ?_⟩, ⟨((hLL.trans hL1).trans hL2).trans hL3, by omega, by omega, by omega, by omega, by omega, by omega, hrL3, hRM3, LogOk.next hlog hce ht hk hl⟩, (show n - (i + 1) < n - i by omega)⟩
        (repeat first | exact trivial | refine ent1 ?_)
        refine ⟨fun j _ => eqC_cs hrL3.raw (fun _ _ => rfl) j, ?_⟩
        (repeat first | exact trivial | refine ent1 ?_)
        refine ⟨fun j _ => eqC_cs hRM3.raw ?_ j, ?_⟩
        · exact (by exact fun j hj => new_cs (new := [] ++ flat (evS e1 x1)) rfl (fun j hj => updN_new hj) j hj)
        (repeat first | exact trivial | refine ent1 ?_)
    · have ki : decide ((i : Int) < (n : Int)) = false := decide_eq_false (by omega)
      have kz : decide ((0 : Int) ≠ 0) = false := by decide
      (repeat first | (refine And.intro ?_ ?_; first | exact rfl | ((exact fun h => absurd h (by first | decide | (rw [ki]; decide))); intro yy; clear yy) | (rotate_left; (exact fun h => absurd h (by first | decide | (rw [ki]; decide))); intro yy; clear yy) | decide | omega) | (with_reducible refine frc_bytesL (by first | omega | decide) ?_) | (with_reducible refine frc_bytesM (by first | omega | decide) ?_))
      refine call_same (fn_llist0 (W := W') (ms := ms') lim false ((dr : Nat) : Int)) [0, 1] rfl (by (repeat first | exact trivial | refine ent1 ?_)) (by (repeat first | exact trivial | refine ent1 ?_)) (fun _ _ => trivial) ?_
      rintro y hs' ⟨rfl, rfl⟩
      (repeat first | (refine And.intro ?_ ?_; first | exact rfl | ((exact fun h => absurd h (by first | decide)); intro yy; clear yy) | (rotate_left; (exact fun h => absurd h (by first | decide)); intro yy; clear yy) | decide | omega) | (with_reducible refine frc_bytesL (by first | omega | decide) ?_) | (with_reducible refine frc_bytesM (by first | omega | decide) ?_))
      refine call_same (fn_bencode (W := W') (ms := ms') EvsAt.nul) [0] rfl (by (repeat first | exact trivial | refine ent1 ?_)) (by (repeat first | exact trivial | refine ent1 ?_)) (fun _ _ => trivial) ?_
      rintro x hs' ⟨-, hk⟩
      obtain ⟨t, e, hM, ht, rfl, rfl⟩ := hk (by omega)
      rw [enc_nil] at hM
      obtain ⟨htl, rfl⟩ : t.l = [66#8, 73#8, 78#8, 49#8, 0#8] ∧ 0 = e := by simp only [Prod.mk.injEq] at hM; exact ⟨hM.1.symm, hM.2⟩
      (repeat first | (refine And.intro ?_ ?_; first | exact rfl | ((exact fun h => absurd h (by first | decide)); intro yy; clear yy) | (rotate_left; (exact fun h => absurd h (by first | decide)); intro yy; clear yy) | decide | omega) | (with_reducible refine frc_bytesL (by first | omega | decide) ?_) | (with_reducible refine frc_bytesM (by first | omega | decide) ?_))
      refine call_past (fn_bdecode (W := W') (ms := ms') t ht) 0 [2] rfl rfl (by (repeat first | exact trivial | refine ent1 ?_)) ?_ (fun _ _ => trivial) (fun x hs hr => ?_) ?_
      · (repeat first | exact trivial | refine ent1 ?_)
        first | refine eqC_btsM ?_ | refine eqC_bts ?_
        (repeat first | exact trivial | refine ent1 ?_)
      · obtain ⟨es2, a2, n2, c2, e2, W2, ms2, _, hL2, _, _, rfl⟩ := hr
        exact ⟨W2, ms2, rfl, hL2⟩
      rintro y hs' ⟨es2, a2, n2, c2, e2, W2, ms2, hD2, hL2, hE2, rfl, rfl⟩
      rw [htl, dec_enc enc_nil] at hD2
      obtain ⟨rfl, rfl⟩ : [] = es2 ∧ 0 = e2 := by simp only [Prod.mk.injEq] at hD2; exact hD2
      (repeat first | (refine And.intro ?_ ?_; first | exact rfl | ((exact fun h => absurd h (by first | decide)); intro yy; clear yy) | (rotate_left; (exact fun h => absurd h (by first | decide)); intro yy; clear yy) | decide | omega) | (with_reducible refine frc_bytesL (by first | omega | decide) ?_) | (with_reducible refine frc_bytesM (by first | omega | decide) ?_))
      generalize most.tmod 50 = kk
      rw [show (if ((0 : Nat) : Int) < (if kk < 0 then 0 else kk) then ((0 : Nat) : Int) else if kk < 0 then 0 else kk) = 0 by split <;> omega]
      refine call_same (fn_lfullN (W := W2) (ms := ms2)) [0] rfl (by (repeat first | exact trivial | refine ent1 ?_)) (by (repeat first | exact trivial | refine ent1 ?_)) (fun _ _ => trivial) ?_
      rintro y hsF ⟨rfl, hF⟩
      rw [hF]
      have k0 : decide ((0 : Int) = 0) = true := by decide
      (repeat first | (refine And.intro ?_ ?_; first | exact rfl | ((exact fun h => absurd h (by first | decide | (rw [k0]; decide))); intro yy; clear yy) | (rotate_left; (exact fun h => absurd h (by first | decide | (rw [k0]; decide))); intro yy; clear yy) | decide | omega) | (with_reducible refine frc_bytesL (by first | omega | decide) ?_) | (with_reducible refine frc_bytesM (by first | omega | decide) ?_))
      refine call_same (fn_bsame (W := W2) (ms := ms2) hE2 EvsAt.nul) [0] rfl (by (repeat first | exact trivial | refine ent1 ?_)) (by (repeat first | exact trivial | refine ent1 ?_)) (fun _ _ => trivial) ?_
      rintro y hs' ⟨⟨r, hr1, rfl⟩, rfl⟩
      obtain rfl : r = true := hr1.2 rfl
      (repeat first | (refine And.intro ?_ ?_; first | exact rfl | ((exact fun h => absurd h (by first | decide | (rw [k0]; decide))); intro yy; clear yy) | (rotate_left; (exact fun h => absurd h (by first | decide | (rw [k0]; decide))); intro yy; clear yy) | decide | omega) | (with_reducible refine frc_bytesL (by first | omega | decide) ?_) | (with_reducible refine frc_bytesM (by first | omega | decide) ?_))
      refine call_same (fn_lsince0 (W := W2) (ms := ms2) lim false ((dr : Nat) : Int) kk) [0, 1] rfl (by (repeat first | exact trivial | refine ent1 ?_)) (by (repeat first | exact trivial | refine ent1 ?_)) (fun _ _ => trivial) ?_
      rintro y hs' ⟨rfl, rfl⟩
      (repeat first | (refine And.intro ?_ ?_; first | exact rfl | ((exact fun h => absurd h (by first | decide | (rw [k0]; decide))); intro yy; clear yy) | (rotate_left; (exact fun h => absurd h (by first | decide | (rw [k0]; decide))); intro yy; clear yy) | decide | omega) | (with_reducible refine frc_bytesL (by first | omega | decide) ?_) | (with_reducible refine frc_bytesM (by first | omega | decide) ?_))
      refine call_same (fn_bsame (W := W2) (ms := ms2) EvsAt.nul EvsAt.nul) [0] rfl (by (repeat first | exact trivial | refine ent1 ?_)) (by (repeat first | exact trivial | refine ent1 ?_)) (fun _ _ => trivial) ?_
      rintro y hs' ⟨⟨r, hr1, rfl⟩, rfl⟩
      obtain rfl : r = true := hr1.2 rfl
      (repeat first | (refine And.intro ?_ ?_; first | exact rfl | ((exact fun h => absurd h (by first | decide | (rw [k0]; decide))); intro yy; clear yy) | (rotate_left; (exact fun h => absurd h (by first | decide | (rw [k0]; decide))); intro yy; clear yy) | decide | omega) | (with_reducible refine frc_bytesL (by first | omega | decide) ?_) | (with_reducible refine frc_bytesM (by first | omega | decide) ?_))
      refine call_same (fn_laddN (W := W2) (ms := ms2) ⟨0#8, 0#64, [], []⟩ ⟨none, 0, 0, none, 0, 0⟩) [0] rfl (by (repeat first | exact trivial | refine ent1 ?_)) (by (repeat first | exact trivial | refine ent1 ?_)) (fun _ _ => trivial) ?_
      rintro y hsF ⟨rfl, hF⟩
      rw [hF]
      have k1 : decide ((1 : Int) = 1) = true := by decide
      (repeat first | (refine And.intro ?_ ?_; first | exact rfl | ((exact fun h => absurd h (by first | decide | (rw [k0]; decide) | (rw [k1]; decide))); intro yy; clear yy) | (rotate_left; (exact fun h => absurd h (by first | decide | (rw [k0]; decide) | (rw [k1]; decide))); intro yy; clear yy) | decide | omega) | (with_reducible refine frc_bytesL (by first | omega | decide) ?_) | (with_reducible refine frc_bytesM (by first | omega | decide) ?_))
      refine call_same (fn_llenN (W := W2) (ms := ms2)) [0] rfl (by (repeat first | exact trivial | refine ent1 ?_)) (by (repeat first | exact trivial | refine ent1 ?_)) (fun _ _ => trivial) ?_
      rintro y hsF ⟨rfl, hF⟩
      rw [hF]
      (repeat first | (refine And.intro ?_ ?_; first | exact rfl | ((exact fun h => absurd h (by first | decide | (rw [k0]; decide) | (rw [k1]; decide))); intro yy; clear yy) | (rotate_left; (exact fun h => absurd h (by first | decide | (rw [k0]; decide) | (rw [k1]; decide))); intro yy; clear yy) | decide | omega) | (with_reducible refine frc_bytesL (by first | omega | decide) ?_) | (with_reducible refine frc_bytesM (by first | omega | decide) ?_))
      refine call_same (fn_llistN (W := W2) (ms := ms2)) [0] rfl (by (repeat first | exact trivial | refine ent1 ?_)) (by (repeat first | exact trivial | refine ent1 ?_)) (fun _ _ => trivial) ?_
      rintro y hsF ⟨rfl, hF⟩
      rw [hF]
      (repeat first | (refine And.intro ?_ ?_; first | exact rfl | ((exact fun h => absurd h (by first | decide | (rw [k0]; decide) | (rw [k1]; decide))); intro yy; clear yy) | (rotate_left; (exact fun h => absurd h (by first | decide | (rw [k0]; decide) | (rw [k1]; decide))); intro yy; clear yy) | decide | omega) | (with_reducible refine frc_bytesL (by first | omega | decide) ?_) | (with_reducible refine frc_bytesM (by first | omega | decide) ?_))
      refine call_same (fn_lsinceN (W := W2) (ms := ms2) kk) [0] rfl (by (repeat first | exact trivial | refine ent1 ?_)) (by (repeat first | exact trivial | refine ent1 ?_)) (fun _ _ => trivial) ?_
      rintro y hsF ⟨rfl, rfl⟩
      (repeat first | (refine And.intro ?_ ?_; first | exact rfl | ((exact fun h => absurd h (by first | decide | (rw [k0]; decide) | (rw [k1]; decide))); intro yy; clear yy) | (rotate_left; (exact fun h => absurd h (by first | decide | (rw [k0]; decide) | (rw [k1]; decide))); intro yy; clear yy) | decide | omega) | (with_reducible refine frc_bytesL (by first | omega | decide) ?_) | (with_reducible refine frc_bytesM (by first | omega | decide) ?_))
      refine ⟨.a (.c (.bool true)), [[.past W2 ms2]], ⟨[0], ⟨rfl, rfl, rfl⟩, ?_⟩, rfl⟩
      (repeat first | exact trivial | refine ent1 ?_)
      done
  · obtain ⟨hLL, hin, hdi, hm0, hmi, hmL, hmM, hrL, hrM, hlog⟩ : Later W ms W' ms' ∧ i ≤ n ∧ dr ≤ i ∧ 0 < m.length ∧ m.length ≤ i ∧ m.length ≤ cL ∧ m.length ≤ cM ∧ RowAt W' ms' csL m ∧ RowAt W' ms' csM m ∧ LogOk lim m cut := hx
    by_cases hi : i < n
    · have ki : decide ((i : Int) < (n : Int)) = true := decide_eq_true (by omega)
      obtain ⟨e, he⟩ : ∃ e, es[i]? = some e := ⟨_, List.getElem?_eq_getElem (by omega)⟩
      have hsm := hl2.1 e (List.mem_of_getElem? he)
      cases ha : a with
      | none => have := h.nil ha; have := h.le; omega
      | some A =>
      subst ha
      obtain ⟨x, him, hx0⟩ := (h.later hLL).elt A rfl i e he
      refine And.intro (fun _ => ?_) (fun hf => absurd (show decide ((i : Int) < (n : Int)) = false from hf) (by rw [ki]; decide))
      refine vc_skip ?_
      refine kseq_n ?_
      refine vc_seq (vc_block ?_)
      refine vc_join4 (fun P => ∀ (W1 : World) (ms1 : List Nat) (e1 : Ev) (x1 : EvC) (v14 v41 v42 v43 v44 v45 v46 v47 v48 v49 v50 v51 v52 v53 v54 v55 v56 v57 v58 v59 v60 v61 v62 v63 v64 v65 v66 v67 v68 v69 v70 v71 : SV), Later W' ms' W1 ms1 → EvAt W1 ms1 x1 e1 → e1.N.length ≤ 1000 → e1.D.length ≤ 1000 → P ⟨[.a (.c (.int .i64 (most))), .a (.c (.slc (some A) n c)), .a (.c (.slc aK nK cK)), .a (.c (.slc aB nB cB)), .any, .any, .any, .any, .any, .a (.c (.int .i64 (lim))), .a (.c (.p 1 0 0)), .a (.c (.sl 3 0 0 m.length cM)), .a (.c (.bool cut)), .a (.c (.int .i64 ((dr : Nat)))), v14, .a (.c (.p 4 0 0)), .any, .any, .any, .any, .any, .any, .any, .any, .any, .any, .any, .any, .any, .any, .any, .any, .any, .any, .any, .any, .any, .any, .a (.c (.slc (some A) n c)), .a (.c (.int .i64 ((n : Nat)))), .a (.c (.int .i64 ((i : Nat)))), v41, v42, v43, v44, v45, v46, v47, v48, v49, v50, v51, v52, v53, v54, v55, v56, v57, v58, v59, v60, v61, v62, v63, v64, v65, v66, v67, v68, v69, v70, v71, .any, .any, .any, .any, .any, .any, .any, .any, .any, .any, .any, .any, .any, .any, .any, .any, .any, .any, .any, .any, .any, .any, .any, .any, .any, .any, .any, .any, .any, .any, .any, .any, .any, .any, .any, .any, .any, .any, .any, .any, .any, .any, .any, .any, .any, .any, .any, .any, .any, .any, .any, .any, .any, .any, .any, .any, .any, .any, .any, .any, .any, .any, .any, .any, .any, .any, .any, .any, .any, .any, .any, .any, .any, .any, .any, .any, .any, .any, .any, .any, .any, .any, .any, .any, .any, .any, .any, .any, .any, .any, .any, .any, .any, .any, .any, .any, .any, .any, .any, .any, .any, .any, .any, .any, .any, .any, .any, .any, .any, .any, .any, .any, .any, .any, .any, .any, .any, .any, .any, .any, .any, .any, .any, .any, .any, .any, .any, .any, .any, .any, .any, .any, .any, .any, .any, .any, .any, .any, .any, .any, .any, .any, .any, .any, .any, .any, .any, .any, .any, .any, .any], [[.past W1 ms1], logC lim (.sl 2 0 0 m.length cL) cut (dr : Int), [.row (scale cL (3 + 1)) (nthC csL)], [.row (scale cM (3 + 1)) (nthC csM)], evS e1 x1]⟩) ?_ ?_
      rotate_left
      · intro key
        (repeat first | (refine And.intro ?_ ?_; first | exact rfl | ((exact fun h => absurd h (by first | decide | (rw [ki]; decide))); intro yy; clear yy) | (rotate_left; (exact fun h => absurd h (by first | decide | (rw [ki]; decide))); intro yy; clear yy) | decide | omega) | (with_reducible refine frc_bytesL (by first | omega | decide) ?_) | (with_reducible refine frc_bytesM (by first | omega | decide) ?_))
        refine ⟨evS e x, ⟨RawAt.past (i := 0) rfl him, rfl⟩, ?_⟩
        by_cases hiK : i < nK
        · have kK : decide ((i : Int) < (nK : Int)) = true := decide_eq_true (by omega)
          have hKL := hK.later hLL
          have hcK := hK.le
          have hKl : ks.length = nK := by have := hK.len; simpa using this
          cases haK : aK with
          | none => subst haK; have := hK.nil_.1; omega
          | some AK =>
          subst haK
          by_cases hiB : i < nB
          · have kB : decide ((i : Int) < (nB : Int)) = true := decide_eq_true (by omega)
            have hBl : bs.length = nB := by have := hB.len; simpa using this
            cases haB : aB with
            | none => subst haB; have := hB.nil_.1; omega
            | some AB =>
            subst haB
            have hBL := hB.later hLL
            have hcB := hB.le
            (repeat first | (refine And.intro ?_ ?_; first | exact rfl | ((exact fun h => absurd h (by first | decide | (rw [ki]; decide) | (rw [kK]; decide) | (rw [kB]; decide))); intro yy; clear yy) | (rotate_left; (exact fun h => absurd h (by first | decide | (rw [ki]; decide) | (rw [kK]; decide) | (rw [kB]; decide))); intro yy; clear yy) | decide | omega) | (with_reducible refine frc_bytesL (by first | omega | decide) ?_) | (with_reducible refine frc_bytesM (by first | omega | decide) ?_))
            refine loadR (i := 0) rfl (hBL.im AB rfl (by omega)) (j := i * 1) (map_get? (show bs[i * 1]? = some (bs[i]'(by omega)) by rw [Nat.mul_one, List.getElem?_eq_getElem (by omega)])) ?_
            cases hbi : bs[i]'(by omega) with
            | true =>
              (iterate 5 first | (refine And.intro ?_ ?_; first | exact rfl | ((exact fun h => absurd h (by first | decide | (rw [ki]; decide) | (rw [kK]; decide) | (rw [kB]; decide))); intro yy; clear yy) | (rotate_left; (exact fun h => absurd h (by first | decide | (rw [ki]; decide) | (rw [kK]; decide) | (rw [kB]; decide))); intro yy; clear yy) | decide | omega) | (with_reducible refine frc_bytesL (by first | omega | decide) ?_) | (with_reducible refine frc_bytesM (by first | omega | decide) ?_))
              refine vc_skip ?_
              refine kseq_n ?_
              exact key W' ms' e x _ _ _ _ _ _ _ _ _ _ _ _ _ _ _ _ _ _ _ _ _ _ _ _ _ _ _ _ _ _ _ _ (Later.refl _ _) hx0 (by omega) (by omega)
            | false =>
              (repeat first | (refine And.intro ?_ ?_; first | exact rfl | ((exact fun h => absurd h (by first | decide | (rw [ki]; decide) | (rw [kK]; decide) | (rw [kB]; decide))); intro yy; clear yy) | (rotate_left; (exact fun h => absurd h (by first | decide | (rw [ki]; decide) | (rw [kK]; decide) | (rw [kB]; decide))); intro yy; clear yy) | decide | omega) | (with_reducible refine frc_bytesL (by first | omega | decide) ?_) | (with_reducible refine frc_bytesM (by first | omega | decide) ?_))
              refine ⟨none, [], [(0, true), (1, true), (2, true), (3, true), (4, true), (5, false)], [6], by (show planAny tds _ _ _ _ = true; decide +kernel), ?_⟩
              (repeat first | (refine And.intro ?_ ?_; first | exact rfl | ((exact fun h => absurd h (by first | decide | (rw [ki]; decide) | (rw [kK]; decide))); intro yy; clear yy) | (rotate_left; (exact fun h => absurd h (by first | decide | (rw [ki]; decide) | (rw [kK]; decide))); intro yy; clear yy) | decide | omega) | (with_reducible refine frc_bytesL (by first | omega | decide) ?_) | (with_reducible refine frc_bytesM (by first | omega | decide) ?_))
              refine loadR (i := 0) rfl (hKL.im AK rfl (by omega)) (j := i * 1) (map_get? (show ks[i * 1]? = some (ks[i]'(by omega)) by rw [Nat.mul_one, List.getElem?_eq_getElem (by omega)])) ?_
              (repeat first | (refine And.intro ?_ ?_; first | exact rfl | ((exact fun h => absurd h (by first | decide | (rw [ki]; decide) | (rw [kK]; decide))); intro yy; clear yy) | (rotate_left; (exact fun h => absurd h (by first | decide | (rw [ki]; decide) | (rw [kK]; decide))); intro yy; clear yy) | decide | omega) | (with_reducible refine frc_bytesL (by first | omega | decide) ?_) | (with_reducible refine frc_bytesM (by first | omega | decide) ?_))
              refine call_past (fn_efit hx0 (by omega) (by omega) (ks[i]'(by omega))) 0 [] rfl rfl (by (repeat first | exact trivial | refine ent1 ?_)) (by (repeat first | exact trivial | refine ent1 ?_)) (fun _ _ => trivial) (fun x hs hr => ?_) ?_
              · obtain ⟨W', ms', x', h1, _, _, rfl⟩ := hr
                exact ⟨W', ms', rfl, h1⟩
              rintro y hs' ⟨W1, ms1, x1, hL1, hx1, rfl, rfl⟩
              have hsh := fitE_short e (ks[i]'(by omega)) (by omega)
              generalize fitE e (ks[i]'(by omega)) = z at hx1 hsh ⊢
              refine And.intro rfl ?_
              refine And.intro (show (5000#64 : BitVec 64) ≠ 0 by decide) ?_
              (repeat first | (refine And.intro ?_ ?_; first | exact rfl | ((exact fun h => absurd h (by first | decide | (rw [ki]; decide) | (rw [kK]; decide))); intro yy; clear yy) | (rotate_left; (exact fun h => absurd h (by first | decide | (rw [ki]; decide) | (rw [kK]; decide))); intro yy; clear yy) | decide | omega) | (with_reducible refine frc_bytesL (by first | omega | decide) ?_) | (with_reducible refine frc_bytesM (by first | omega | decide) ?_))
              exact (key W1 ms1 ⟨z.k, z.t % 5000#64, z.N, z.D⟩ x1 _ _ _ _ _ _ _ _ _ _ _ _ _ _ _ _ _ _ _ _ _ _ _ _ _ _ _ _ _ _ _ _ hL1 ⟨hx1.N, hx1.D⟩ (by show z.N.length ≤ 1000; omega) (by show z.D.length ≤ 1000; omega)).2
          · have kB : decide ((i : Int) < (nB : Int)) = false := decide_eq_false (by omega)
            (repeat first | (refine And.intro ?_ ?_; first | exact rfl | ((exact fun h => absurd h (by first | decide | (rw [ki]; decide) | (rw [kK]; decide) | (rw [kB]; decide))); intro yy; clear yy) | (rotate_left; (exact fun h => absurd h (by first | decide | (rw [ki]; decide) | (rw [kK]; decide) | (rw [kB]; decide))); intro yy; clear yy) | decide | omega) | (with_reducible refine frc_bytesL (by first | omega | decide) ?_) | (with_reducible refine frc_bytesM (by first | omega | decide) ?_))
            refine ⟨none, [], [(0, true), (1, true), (2, true), (3, true), (4, true), (5, false)], [6], by (show planAny tds _ _ _ _ = true; decide +kernel), ?_⟩
            (repeat first | (refine And.intro ?_ ?_; first | exact rfl | ((exact fun h => absurd h (by first | decide | (rw [ki]; decide) | (rw [kK]; decide))); intro yy; clear yy) | (rotate_left; (exact fun h => absurd h (by first | decide | (rw [ki]; decide) | (rw [kK]; decide))); intro yy; clear yy) | decide | omega) | (with_reducible refine frc_bytesL (by first | omega | decide) ?_) | (with_reducible refine frc_bytesM (by first | omega | decide) ?_))
            refine loadR (i := 0) rfl (hKL.im AK rfl (by omega)) (j := i * 1) (map_get? (show ks[i * 1]? = some (ks[i]'(by omega)) by rw [Nat.mul_one, List.getElem?_eq_getElem (by omega)])) ?_
            (repeat first | (refine And.intro ?_ ?_; first | exact rfl | ((exact fun h => absurd h (by first | decide | (rw [ki]; decide) | (rw [kK]; decide))); intro yy; clear yy) | (rotate_left; (exact fun h => absurd h (by first | decide | (rw [ki]; decide) | (rw [kK]; decide))); intro yy; clear yy) | decide | omega) | (with_reducible refine frc_bytesL (by first | omega | decide) ?_) | (with_reducible refine frc_bytesM (by first | omega | decide) ?_))
            refine call_past (fn_efit hx0 (by omega) (by omega) (ks[i]'(by omega))) 0 [] rfl rfl (by (repeat first | exact trivial | refine ent1 ?_)) (by (repeat first | exact trivial | refine ent1 ?_)) (fun _ _ => trivial) (fun x hs hr => ?_) ?_
            · obtain ⟨W', ms', x', h1, _, _, rfl⟩ := hr
              exact ⟨W', ms', rfl, h1⟩
            rintro y hs' ⟨W1, ms1, x1, hL1, hx1, rfl, rfl⟩
            have hsh := fitE_short e (ks[i]'(by omega)) (by omega)
            generalize fitE e (ks[i]'(by omega)) = z at hx1 hsh ⊢
            refine And.intro rfl ?_
            refine And.intro (show (5000#64 : BitVec 64) ≠ 0 by decide) ?_
            (repeat first | (refine And.intro ?_ ?_; first | exact rfl | ((exact fun h => absurd h (by first | decide | (rw [ki]; decide) | (rw [kK]; decide))); intro yy; clear yy) | (rotate_left; (exact fun h => absurd h (by first | decide | (rw [ki]; decide) | (rw [kK]; decide))); intro yy; clear yy) | decide | omega) | (with_reducible refine frc_bytesL (by first | omega | decide) ?_) | (with_reducible refine frc_bytesM (by first | omega | decide) ?_))
            exact (key W1 ms1 ⟨z.k, z.t % 5000#64, z.N, z.D⟩ x1 _ _ _ _ _ _ _ _ _ _ _ _ _ _ _ _ _ _ _ _ _ _ _ _ _ _ _ _ _ _ _ _ hL1 ⟨hx1.N, hx1.D⟩ (by show z.N.length ≤ 1000; omega) (by show z.D.length ≤ 1000; omega)).2
        · have kK : decide ((i : Int) < (nK : Int)) = false := decide_eq_false (by omega)
          (iterate 10 first | (refine And.intro ?_ ?_; first | exact rfl | ((exact fun h => absurd h (by first | decide | (rw [ki]; decide) | (rw [kK]; decide))); intro yy; clear yy) | (rotate_left; (exact fun h => absurd h (by first | decide | (rw [ki]; decide) | (rw [kK]; decide))); intro yy; clear yy) | decide | omega) | (with_reducible refine frc_bytesL (by first | omega | decide) ?_) | (with_reducible refine frc_bytesM (by first | omega | decide) ?_))
          refine vc_skip ?_
          refine kseq_n ?_
          exact key W' ms' e x _ _ _ _ _ _ _ _ _ _ _ _ _ _ _ _ _ _ _ _ _ _ _ _ _ _ _ _ _ _ _ _ (Later.refl _ _) hx0 (by omega) (by omega)
      intro W1 ms1 e1 x1 v14 v41 v42 v43 v44 v45 v46 v47 v48 v49 v50 v51 v52 v53 v54 v55 v56 v57 v58 v59 v60 v61 v62 v63 v64 v65 v66 v67 v68 v69 v70 v71 hL1 hx1 hN1 hD1
      have ki : decide ((0 : Int) ≠ 0) = false := by decide
      (repeat first | (refine And.intro ?_ ?_; first | exact rfl | ((exact fun h => absurd h (by first | decide)); intro yy; clear yy) | (rotate_left; (exact fun h => absurd h (by first | decide)); intro yy; clear yy) | decide | omega) | (with_reducible refine frc_bytesL (by first | omega | decide) ?_) | (with_reducible refine frc_bytesM (by first | omega | decide) ?_))
      refine call_same (fn_echeck hx1) [0] rfl (by (repeat first | exact trivial | refine ent1 ?_)) (by (repeat first | exact trivial | refine ent1 ?_)) (fun _ _ => trivial) ?_
      rintro y hs' ⟨rfl, rfl⟩
      by_cases hce : checkM e1 = 0
      rotate_left
      · have k1 : decide (checkM e1 ≠ 0) = true := decide_eq_true hce
        cases cut with
        | true =>
          have hadd : addM lim m true dr e1 = (m, true, dr, checkM e1) := by unfold addM; rw [if_pos hce]
          (repeat first | (refine And.intro ?_ ?_; first | exact rfl | ((exact fun h => absurd h (by first | decide | (rw [k1]; decide))); intro yy; clear yy) | (rotate_left; (exact fun h => absurd h (by first | decide | (rw [k1]; decide))); intro yy; clear yy) | decide | omega) | (with_reducible refine frc_bytesL (by first | omega | decide) ?_) | (with_reducible refine frc_bytesM (by first | omega | decide) ?_))
          refine call_past (fn_ladd1 hx1 (hrL.later hL1) rfl hm0 (by omega) hmL lim true dr (by omega) hadd hD1 hN1) 0 [1, 2] rfl rfl (by (repeat first | exact trivial | refine ent1 ?_)) (by (repeat first | exact trivial | refine ent1 ?_); refine ⟨fun j _ => eqC_cs hrL.raw (fun _ _ => rfl) j, ?_⟩; (repeat first | exact trivial | refine ent1 ?_)) (fun _ _ => trivial) (fun x hs hr => ?_) ?_
          · obtain ⟨W', ms', h1, _, ⟨_, rfl⟩ | ⟨_, _, _, _, _, rfl⟩⟩ := hr
            · exact ⟨W', ms', rfl, h1⟩
            · exact ⟨W', ms', rfl, h1⟩
          rintro y hs' ⟨W2, ms2, hL2, rfl, ⟨-, rfl⟩ | ⟨csL2, cL2, hrL2, hlen2, hcL2, rfl⟩⟩
          rotate_left
          · exact absurd hlen2 (by first | omega | simp)
          have hrL2 := (hrL.later hL1).later hL2
          have hRM2 := (hrM.later hL1).later hL2
          have kw : decide ((checkM e1 : Int) ≠ checkM e1) = false := decide_eq_false fun h => h rfl
          (repeat first | (refine And.intro ?_ ?_; first | exact rfl | ((exact fun h => absurd h (by first | decide | (rw [kw]; decide))); intro yy; clear yy) | (rotate_left; (exact fun h => absurd h (by first | decide | (rw [kw]; decide))); intro yy; clear yy) | decide | omega) | (with_reducible refine frc_bytesL (by first | omega | decide) ?_) | (with_reducible refine frc_bytesM (by first | omega | decide) ?_))
          rw [mp_row hrL.raw]
          refine call_same (fn_lfull (W := W2) (ms := ms2) lim true ((dr : Nat) : Int)) [0, 1] rfl (by (repeat first | exact trivial | refine ent1 ?_)) (by (repeat first | exact trivial | refine ent1 ?_)) (fun _ _ => trivial) ?_
          rintro y hsF ⟨rfl, hF⟩
          rw [hF]
          (repeat first | (refine And.intro ?_ ?_; first | exact rfl | ((exact fun h => absurd h (by first | decide | (rw [kw]; decide))); intro yy; clear yy) | (rotate_left; (exact fun h => absurd h (by first | decide | (rw [kw]; decide))); intro yy; clear yy) | decide | omega) | (with_reducible refine frc_bytesL (by first | omega | decide) ?_) | (with_reducible refine frc_bytesM (by first | omega | decide) ?_))
          refine call_past (fn_llist1 hrL2 rfl (by omega) (by omega) hmL (GoodL.small (hlog).good) lim true ((dr : Nat) : Int)) 0 [1, 2] rfl rfl (by (repeat first | exact trivial | refine ent1 ?_)) (by (repeat first | exact trivial | refine ent1 ?_); refine ⟨fun j _ => eqC_cs hrL2.raw (fun _ _ => rfl) j, ?_⟩; (repeat first | exact trivial | refine ent1 ?_)) (fun _ _ => trivial) (fun x hs hr => ?_) ?_
          · obtain ⟨a', c', W', ms', h1, _, _, rfl⟩ := hr
            exact ⟨W', ms', rfl, h1⟩
          rintro y hs' ⟨a3, c3, W3, ms3, hL3, hE3, rfl, rfl⟩
          have hRM3 := hRM2.later hL3
          have hrL3 := hrL2.later hL3
          (repeat first | (refine And.intro ?_ ?_; first | exact rfl | ((exact fun h => absurd h (by first | decide | (rw [kw]; decide))); intro yy; clear yy) | (rotate_left; (exact fun h => absurd h (by first | decide | (rw [kw]; decide))); intro yy; clear yy) | decide | omega) | (with_reducible refine frc_bytesL (by first | omega | decide) ?_) | (with_reducible refine frc_bytesM (by first | omega | decide) ?_))
          refine call_lend [3] 0 [] rfl rfl (by (repeat first | exact trivial | refine ent1 ?_)) NoP.nil (fun _ _ => trivial) (fun W' ms' α hL' hI => ⟨[.c (.slc a3 m.length c3), .c (.slc (some ((α 3).add (0 + 0))) m.length cM)], ?_, (fn_bsame (hE3.later hL') (hRM3.frzF (F := fun j => memB j [3]) (n := m.length) (c := cM) hL' (fun _ _ => rfl) (hI 3 rfl) rfl hmM (by omega))).mono (Res' := fun y hs => y = .a (.c (.bool true)) ∧ hs.drop 1 = []) (fun x hs hr => ?_)⟩) (fun x hs hr => ?_) ?_
          · (repeat first | exact trivial | refine ent1 ?_)
          · obtain ⟨⟨r, hr, rfl⟩, rfl⟩ := hr
            have hr1 : r = true := hr.2 rfl
            subst hr1
            exact ⟨rfl, rfl⟩
          · rw [hr.2]; exact NoP.nil
          rintro y hs' ⟨rfl, hdrop⟩
          rw [hdrop]
          (repeat first | (refine And.intro ?_ ?_; first | exact rfl | ((exact fun h => absurd h (by first | decide | (rw [kw]; decide))); intro yy; clear yy) | (rotate_left; (exact fun h => absurd h (by first | decide | (rw [kw]; decide))); intro yy; clear yy) | decide | omega) | (with_reducible refine frc_bytesL (by first | omega | decide) ?_) | (with_reducible refine frc_bytesM (by first | omega | decide) ?_))
          refine call_same (fn_llen1 (W := W3) (ms := ms3) lim true ((dr : Nat) : Int) m.length cL []) [0, 1, 2] rfl (by (repeat first | exact trivial | refine ent1 ?_)) (by (repeat first | exact trivial | refine ent1 ?_)) (fun _ _ => trivial) ?_
          rintro y hsF ⟨rfl, hF⟩
          rw [hF]
          have kz : decide (((dr : Nat) : Int) ≠ ((dr : Nat) : Int)) = false := decide_eq_false fun h => h rfl
          have kz2 : decide (((dr + 1 : Nat) : Int) ≠ (dr : Int) + 1) = false := decide_eq_false fun h => h (by omega)
          have ky : decide (((m.length : Nat) : Int) ≠ ((m.length : Nat) : Int)) = false := decide_eq_false fun h => h rfl
          (repeat first | (refine And.intro ?_ ?_; first | exact rfl | ((exact fun h => absurd h (by first | decide | (rw [kz]; decide) | (rw [ky]; decide) | (rw [kz2]; decide))); intro yy; clear yy) | (rotate_left; (exact fun h => absurd h (by first | decide | (rw [kz]; decide) | (rw [ky]; decide) | (rw [kz2]; decide))); intro yy; clear yy) | decide | omega) | (with_reducible refine frc_bytesL (by first | omega | decide) ?_) | (with_reducible refine frc_bytesM (by first | omega | decide) ?_))
          refine ⟨.inr (W3, ms3, m, true, dr, csL, cL, csM, cM, i + 1), [0, 1, 2, 3], ⟨⟨rfl, rfl, rfl⟩, ?_⟩, ⟨((hLL.trans hL1).trans hL2).trans hL3, by omega, by omega, by omega, by omega, by omega, by omega, hrL3, hRM3, hlog⟩, (show n - (i + 1) < n - i by omega)⟩
          (repeat first | exact trivial | refine ent1 ?_)
          refine ⟨fun j _ => eqC_cs hrL3.raw (fun _ _ => rfl) j, ?_⟩
          (repeat first | exact trivial | refine ent1 ?_)
          refine ⟨fun j _ => eqC_cs hRM3.raw ?_ j, ?_⟩
          · exact (fun _ _ => rfl)
          (repeat first | exact trivial | refine ent1 ?_)
        | false =>
          have hadd : addM lim m false dr e1 = (m, false, dr, checkM e1) := by unfold addM; rw [if_pos hce]
          (repeat first | (refine And.intro ?_ ?_; first | exact rfl | ((exact fun h => absurd h (by first | decide | (rw [k1]; decide))); intro yy; clear yy) | (rotate_left; (exact fun h => absurd h (by first | decide | (rw [k1]; decide))); intro yy; clear yy) | decide | omega) | (with_reducible refine frc_bytesL (by first | omega | decide) ?_) | (with_reducible refine frc_bytesM (by first | omega | decide) ?_))
          refine call_past (fn_ladd1 hx1 (hrL.later hL1) rfl hm0 (by omega) hmL lim false dr (by omega) hadd hD1 hN1) 0 [1, 2] rfl rfl (by (repeat first | exact trivial | refine ent1 ?_)) (by (repeat first | exact trivial | refine ent1 ?_); refine ⟨fun j _ => eqC_cs hrL.raw (fun _ _ => rfl) j, ?_⟩; (repeat first | exact trivial | refine ent1 ?_)) (fun _ _ => trivial) (fun x hs hr => ?_) ?_
          · obtain ⟨W', ms', h1, _, ⟨_, rfl⟩ | ⟨_, _, _, _, _, rfl⟩⟩ := hr
            · exact ⟨W', ms', rfl, h1⟩
            · exact ⟨W', ms', rfl, h1⟩
          rintro y hs' ⟨W2, ms2, hL2, rfl, ⟨-, rfl⟩ | ⟨csL2, cL2, hrL2, hlen2, hcL2, rfl⟩⟩
          rotate_left
          · exact absurd hlen2 (by first | omega | simp)
          have hrL2 := (hrL.later hL1).later hL2
          have hRM2 := (hrM.later hL1).later hL2
          have kw : decide ((checkM e1 : Int) ≠ checkM e1) = false := decide_eq_false fun h => h rfl
          (repeat first | (refine And.intro ?_ ?_; first | exact rfl | ((exact fun h => absurd h (by first | decide | (rw [kw]; decide))); intro yy; clear yy) | (rotate_left; (exact fun h => absurd h (by first | decide | (rw [kw]; decide))); intro yy; clear yy) | decide | omega) | (with_reducible refine frc_bytesL (by first | omega | decide) ?_) | (with_reducible refine frc_bytesM (by first | omega | decide) ?_))
          rw [mp_row hrL.raw]
          refine call_same (fn_lfull (W := W2) (ms := ms2) lim false ((dr : Nat) : Int)) [0, 1] rfl (by (repeat first | exact trivial | refine ent1 ?_)) (by (repeat first | exact trivial | refine ent1 ?_)) (fun _ _ => trivial) ?_
          rintro y hsF ⟨rfl, hF⟩
          rw [hF]
          (repeat first | (refine And.intro ?_ ?_; first | exact rfl | ((exact fun h => absurd h (by first | decide | (rw [kw]; decide))); intro yy; clear yy) | (rotate_left; (exact fun h => absurd h (by first | decide | (rw [kw]; decide))); intro yy; clear yy) | decide | omega) | (with_reducible refine frc_bytesL (by first | omega | decide) ?_) | (with_reducible refine frc_bytesM (by first | omega | decide) ?_))
          refine call_past (fn_llist1 hrL2 rfl (by omega) (by omega) hmL (GoodL.small (hlog).good) lim false ((dr : Nat) : Int)) 0 [1, 2] rfl rfl (by (repeat first | exact trivial | refine ent1 ?_)) (by (repeat first | exact trivial | refine ent1 ?_); refine ⟨fun j _ => eqC_cs hrL2.raw (fun _ _ => rfl) j, ?_⟩; (repeat first | exact trivial | refine ent1 ?_)) (fun _ _ => trivial) (fun x hs hr => ?_) ?_
          · obtain ⟨a', c', W', ms', h1, _, _, rfl⟩ := hr
            exact ⟨W', ms', rfl, h1⟩
          rintro y hs' ⟨a3, c3, W3, ms3, hL3, hE3, rfl, rfl⟩
          have hRM3 := hRM2.later hL3
          have hrL3 := hrL2.later hL3
          (repeat first | (refine And.intro ?_ ?_; first | exact rfl | ((exact fun h => absurd h (by first | decide | (rw [kw]; decide))); intro yy; clear yy) | (rotate_left; (exact fun h => absurd h (by first | decide | (rw [kw]; decide))); intro yy; clear yy) | decide | omega) | (with_reducible refine frc_bytesL (by first | omega | decide) ?_) | (with_reducible refine frc_bytesM (by first | omega | decide) ?_))
          refine call_lend [3] 0 [] rfl rfl (by (repeat first | exact trivial | refine ent1 ?_)) NoP.nil (fun _ _ => trivial) (fun W' ms' α hL' hI => ⟨[.c (.slc a3 m.length c3), .c (.slc (some ((α 3).add (0 + 0))) m.length cM)], ?_, (fn_bsame (hE3.later hL') (hRM3.frzF (F := fun j => memB j [3]) (n := m.length) (c := cM) hL' (fun _ _ => rfl) (hI 3 rfl) rfl hmM (by omega))).mono (Res' := fun y hs => y = .a (.c (.bool true)) ∧ hs.drop 1 = []) (fun x hs hr => ?_)⟩) (fun x hs hr => ?_) ?_
          · (repeat first | exact trivial | refine ent1 ?_)
          · obtain ⟨⟨r, hr, rfl⟩, rfl⟩ := hr
            have hr1 : r = true := hr.2 rfl
            subst hr1
            exact ⟨rfl, rfl⟩
          · rw [hr.2]; exact NoP.nil
          rintro y hs' ⟨rfl, hdrop⟩
          rw [hdrop]
          (repeat first | (refine And.intro ?_ ?_; first | exact rfl | ((exact fun h => absurd h (by first | decide | (rw [kw]; decide))); intro yy; clear yy) | (rotate_left; (exact fun h => absurd h (by first | decide | (rw [kw]; decide))); intro yy; clear yy) | decide | omega) | (with_reducible refine frc_bytesL (by first | omega | decide) ?_) | (with_reducible refine frc_bytesM (by first | omega | decide) ?_))
          refine call_same (fn_llen1 (W := W3) (ms := ms3) lim false ((dr : Nat) : Int) m.length cL []) [0, 1, 2] rfl (by (repeat first | exact trivial | refine ent1 ?_)) (by (repeat first | exact trivial | refine ent1 ?_)) (fun _ _ => trivial) ?_
          rintro y hsF ⟨rfl, hF⟩
          rw [hF]
          have kz : decide (((dr : Nat) : Int) ≠ ((dr : Nat) : Int)) = false := decide_eq_false fun h => h rfl
          have kz2 : decide (((dr + 1 : Nat) : Int) ≠ (dr : Int) + 1) = false := decide_eq_false fun h => h (by omega)
          have ky : decide (((m.length : Nat) : Int) ≠ ((m.length : Nat) : Int)) = false := decide_eq_false fun h => h rfl
          (repeat first | (refine And.intro ?_ ?_; first | exact rfl | ((exact fun h => absurd h (by first | decide | (rw [kz]; decide) | (rw [ky]; decide) | (rw [kz2]; decide))); intro yy; clear yy) | (rotate_left; (exact fun h => absurd h (by first | decide | (rw [kz]; decide) | (rw [ky]; decide) | (rw [kz2]; decide))); intro yy; clear yy) | decide | omega) | (with_reducible refine frc_bytesL (by first | omega | decide) ?_) | (with_reducible refine frc_bytesM (by first | omega | decide) ?_))
          refine ⟨.inr (W3, ms3, m, false, dr, csL, cL, csM, cM, i + 1), [0, 1, 2, 3], ⟨⟨rfl, rfl, rfl⟩, ?_⟩, ⟨((hLL.trans hL1).trans hL2).trans hL3, by omega, by omega, by omega, by omega, by omega, by omega, hrL3, hRM3, hlog⟩, (show n - (i + 1) < n - i by omega)⟩
          (repeat first | exact trivial | refine ent1 ?_)
          refine ⟨fun j _ => eqC_cs hrL3.raw (fun _ _ => rfl) j, ?_⟩
          (repeat first | exact trivial | refine ent1 ?_)
          refine ⟨fun j _ => eqC_cs hRM3.raw ?_ j, ?_⟩
          · exact (fun _ _ => rfl)
          (repeat first | exact trivial | refine ent1 ?_)
      rw [hce]
      (repeat first | (refine And.intro ?_ ?_; first | exact rfl | ((exact fun h => absurd h (by first | decide | (rw [ki]; decide))); intro yy; clear yy) | (rotate_left; (exact fun h => absurd h (by first | decide | (rw [ki]; decide))); intro yy; clear yy) | decide | omega) | (with_reducible refine frc_bytesL (by first | omega | decide) ?_) | (with_reducible refine frc_bytesM (by first | omega | decide) ?_))
      cases cut with
      | true =>
        have hadd : addM lim m true dr e1 = (m, true, dr + 1, 11) := by unfold addM; rw [if_neg (by omega), if_pos rfl]
        (repeat first | (refine And.intro ?_ ?_; first | exact rfl | ((exact fun h => absurd h (by first | decide | (rw [ki]; decide))); intro yy; clear yy) | (rotate_left; (exact fun h => absurd h (by first | decide | (rw [ki]; decide))); intro yy; clear yy) | decide | omega) | (with_reducible refine frc_bytesL (by first | omega | decide) ?_) | (with_reducible refine frc_bytesM (by first | omega | decide) ?_))
        refine call_past (fn_ladd1 hx1 (hrL.later hL1) rfl hm0 (by omega) hmL lim true dr (by omega) hadd hD1 hN1) 0 [1, 2] rfl rfl (by (repeat first | exact trivial | refine ent1 ?_)) (by (repeat first | exact trivial | refine ent1 ?_); refine ⟨fun j _ => eqC_cs hrL.raw (fun _ _ => rfl) j, ?_⟩; (repeat first | exact trivial | refine ent1 ?_)) (fun _ _ => trivial) (fun x hs hr => ?_) ?_
        · obtain ⟨W', ms', h1, _, ⟨_, rfl⟩ | ⟨_, _, _, _, _, rfl⟩⟩ := hr
          · exact ⟨W', ms', rfl, h1⟩
          · exact ⟨W', ms', rfl, h1⟩
        rintro y hs' ⟨W2, ms2, hL2, rfl, ⟨-, rfl⟩ | ⟨csL2, cL2, hrL2, hlen2, hcL2, rfl⟩⟩
        rotate_left
        · exact absurd hlen2 (by first | omega | simp)
        have hrL2 := (hrL.later hL1).later hL2
        have hRM2 := (hrM.later hL1).later hL2
        have kw : decide ((11 : Int) ≠ 11) = false := decide_eq_false fun h => h rfl
        (repeat first | (refine And.intro ?_ ?_; first | exact rfl | ((exact fun h => absurd h (by first | decide | (rw [kw]; decide))); intro yy; clear yy) | (rotate_left; (exact fun h => absurd h (by first | decide | (rw [kw]; decide))); intro yy; clear yy) | decide | omega) | (with_reducible refine frc_bytesL (by first | omega | decide) ?_) | (with_reducible refine frc_bytesM (by first | omega | decide) ?_))
        rw [mp_row hrL.raw]
        refine call_same (fn_lfull (W := W2) (ms := ms2) lim true (((dr + 1) : Nat) : Int)) [0, 1] rfl (by (repeat first | exact trivial | refine ent1 ?_)) (by (repeat first | exact trivial | refine ent1 ?_)) (fun _ _ => trivial) ?_
        rintro y hsF ⟨rfl, hF⟩
        rw [hF]
        (repeat first | (refine And.intro ?_ ?_; first | exact rfl | ((exact fun h => absurd h (by first | decide | (rw [kw]; decide))); intro yy; clear yy) | (rotate_left; (exact fun h => absurd h (by first | decide | (rw [kw]; decide))); intro yy; clear yy) | decide | omega) | (with_reducible refine frc_bytesL (by first | omega | decide) ?_) | (with_reducible refine frc_bytesM (by first | omega | decide) ?_))
        refine call_past (fn_llist1 hrL2 rfl (by omega) (by omega) hmL (GoodL.small (hlog).good) lim true (((dr + 1) : Nat) : Int)) 0 [1, 2] rfl rfl (by (repeat first | exact trivial | refine ent1 ?_)) (by (repeat first | exact trivial | refine ent1 ?_); refine ⟨fun j _ => eqC_cs hrL2.raw (fun _ _ => rfl) j, ?_⟩; (repeat first | exact trivial | refine ent1 ?_)) (fun _ _ => trivial) (fun x hs hr => ?_) ?_
        · obtain ⟨a', c', W', ms', h1, _, _, rfl⟩ := hr
          exact ⟨W', ms', rfl, h1⟩
        rintro y hs' ⟨a3, c3, W3, ms3, hL3, hE3, rfl, rfl⟩
        have hRM3 := hRM2.later hL3
        have hrL3 := hrL2.later hL3
        (repeat first | (refine And.intro ?_ ?_; first | exact rfl | ((exact fun h => absurd h (by first | decide | (rw [kw]; decide))); intro yy; clear yy) | (rotate_left; (exact fun h => absurd h (by first | decide | (rw [kw]; decide))); intro yy; clear yy) | decide | omega) | (with_reducible refine frc_bytesL (by first | omega | decide) ?_) | (with_reducible refine frc_bytesM (by first | omega | decide) ?_))
        refine call_lend [3] 0 [] rfl rfl (by (repeat first | exact trivial | refine ent1 ?_)) NoP.nil (fun _ _ => trivial) (fun W' ms' α hL' hI => ⟨[.c (.slc a3 m.length c3), .c (.slc (some ((α 3).add (0 + 0))) m.length cM)], ?_, (fn_bsame (hE3.later hL') (hRM3.frzF (F := fun j => memB j [3]) (n := m.length) (c := cM) hL' (fun _ _ => rfl) (hI 3 rfl) rfl hmM (by omega))).mono (Res' := fun y hs => y = .a (.c (.bool true)) ∧ hs.drop 1 = []) (fun x hs hr => ?_)⟩) (fun x hs hr => ?_) ?_
        · (repeat first | exact trivial | refine ent1 ?_)
        · obtain ⟨⟨r, hr, rfl⟩, rfl⟩ := hr
          have hr1 : r = true := hr.2 rfl
          subst hr1
          exact ⟨rfl, rfl⟩
        · rw [hr.2]; exact NoP.nil
        rintro y hs' ⟨rfl, hdrop⟩
        rw [hdrop]
        (repeat first | (refine And.intro ?_ ?_; first | exact rfl | ((exact fun h => absurd h (by first | decide | (rw [kw]; decide))); intro yy; clear yy) | (rotate_left; (exact fun h => absurd h (by first | decide | (rw [kw]; decide))); intro yy; clear yy) | decide | omega) | (with_reducible refine frc_bytesL (by first | omega | decide) ?_) | (with_reducible refine frc_bytesM (by first | omega | decide) ?_))
        refine call_same (fn_llen1 (W := W3) (ms := ms3) lim true (((dr + 1) : Nat) : Int) m.length cL []) [0, 1, 2] rfl (by (repeat first | exact trivial | refine ent1 ?_)) (by (repeat first | exact trivial | refine ent1 ?_)) (fun _ _ => trivial) ?_
        rintro y hsF ⟨rfl, hF⟩
        rw [hF]
        have kz : decide ((((dr + 1) : Nat) : Int) ≠ (((dr + 1) : Nat) : Int)) = false := decide_eq_false fun h => h rfl
        have kz2 : decide (((dr + 1 : Nat) : Int) ≠ (dr : Int) + 1) = false := decide_eq_false fun h => h (by omega)
        have ky : decide (((m.length : Nat) : Int) ≠ ((m.length : Nat) : Int)) = false := decide_eq_false fun h => h rfl
        (repeat first | (refine And.intro ?_ ?_; first | exact rfl | ((exact fun h => absurd h (by first | decide | (rw [kz]; decide) | (rw [ky]; decide) | (rw [kz2]; decide))); intro yy; clear yy) | (rotate_left; (exact fun h => absurd h (by first | decide | (rw [kz]; decide) | (rw [ky]; decide) | (rw [kz2]; decide))); intro yy; clear yy) | decide | omega) | (with_reducible refine frc_bytesL (by first | omega | decide) ?_) | (with_reducible refine frc_bytesM (by first | omega | decide) ?_))
        refine ⟨.inr (W3, ms3, m, true, (dr + 1), csL, cL, csM, cM, i + 1), [0, 1, 2, 3], ⟨⟨rfl, rfl, rfl⟩, ?_⟩, ⟨((hLL.trans hL1).trans hL2).trans hL3, by omega, by omega, by omega, by omega, by omega, by omega, hrL3, hRM3, hlog⟩, (show n - (i + 1) < n - i by omega)⟩
        (repeat first | exact trivial | refine ent1 ?_)
        refine ⟨fun j _ => eqC_cs hrL3.raw (fun _ _ => rfl) j, ?_⟩
        (repeat first | exact trivial | refine ent1 ?_)
        refine ⟨fun j _ => eqC_cs hRM3.raw ?_ j, ?_⟩
        · exact (fun _ _ => rfl)
        (repeat first | exact trivial | refine ent1 ?_)
      | false =>
      obtain ⟨z, hz⟩ : ∃ z, m[m.length - 1]? = some z := ⟨_, List.getElem?_eq_getElem (by omega)⟩
      obtain ⟨zx, hzc, _⟩ := hrM.elt (m.length - 1) z hz
      have hzt : csM[(m.length - 1) * 4 + 1]? = some (.w64 z.t) := hzc 1 _ rfl
      have hlast : lastT 0#64 m = z.t := by
        have := lastT_eq (last := 0#64) hz
        rwa [show m.length - 1 + 1 = m.length by omega, List.take_length] at this
      have kn : decide ((0 : Int) < (m.length : Int)) = true := decide_eq_true (by omega)
      (repeat first | (refine And.intro ?_ ?_; first | exact rfl | ((exact fun h => absurd h (by first | decide | (rw [ki]; decide))); intro yy; clear yy) | (rotate_left; (exact fun h => absurd h (by first | decide | (rw [ki]; decide))); intro yy; clear yy) | decide | omega) | (with_reducible refine frc_bytesL (by first | omega | decide) ?_) | (with_reducible refine frc_bytesM (by first | omega | decide) ?_))
      refine ⟨none, [], [(0, true), (1, true), (2, true), (3, true), (4, true), (5, true), (6, true), (7, true), (8, true), (9, true), (10, true), (11, true), (12, true), (13, true), (14, true), (15, true)], [], by kernel_rfl, ?_⟩
      (repeat first | (refine And.intro ?_ ?_; first | exact rfl | ((exact fun h => absurd h (by first | decide | (rw [kn]; decide))); intro yy; clear yy) | (rotate_left; (exact fun h => absurd h (by first | decide | (rw [kn]; decide))); intro yy; clear yy) | decide | omega) | (with_reducible refine frc_bytesL (by first | omega | decide) ?_) | (with_reducible refine frc_bytesM (by first | omega | decide) ?_))
      refine And.intro (show ((m.length : Int) - 1).toNat * 4 + 1 < scale cM (3 + 1) by rw [sc4]; omega) ?_
      refine frc_eq (y := .w64 z.t) (by rw [show ((m.length : Int) - 1).toNat * 4 + 1 = (m.length - 1) * 4 + 1 by omega]; exact nthC_get? hzt) ?_
      by_cases ht : e1.t < lastT 0#64 m
      · have kt : decide (e1.t < z.t) = true := decide_eq_true (by rw [← hlast]; exact ht)
        have hadd : addM lim m false dr e1 = (m, false, dr, 21) := by unfold addM; rw [if_neg (by omega), if_neg (by decide), if_pos ht]
        (repeat first | (refine And.intro ?_ ?_; first | exact rfl | ((exact fun h => absurd h (by first | decide | (rw [kn]; decide) | (rw [kt]; decide))); intro yy; clear yy) | (rotate_left; (exact fun h => absurd h (by first | decide | (rw [kn]; decide) | (rw [kt]; decide))); intro yy; clear yy) | decide | omega) | (with_reducible refine frc_bytesL (by first | omega | decide) ?_) | (with_reducible refine frc_bytesM (by first | omega | decide) ?_))
        refine call_past (fn_ladd1 hx1 (hrL.later hL1) rfl hm0 (by omega) hmL lim false dr (by omega) hadd hD1 hN1) 0 [1, 2] rfl rfl (by (repeat first | exact trivial | refine ent1 ?_)) (by (repeat first | exact trivial | refine ent1 ?_); refine ⟨fun j _ => eqC_cs hrL.raw (fun _ _ => rfl) j, ?_⟩; (repeat first | exact trivial | refine ent1 ?_)) (fun _ _ => trivial) (fun x hs hr => ?_) ?_
        · obtain ⟨W', ms', h1, _, ⟨_, rfl⟩ | ⟨_, _, _, _, _, rfl⟩⟩ := hr
          · exact ⟨W', ms', rfl, h1⟩
          · exact ⟨W', ms', rfl, h1⟩
        rintro y hs' ⟨W2, ms2, hL2, rfl, ⟨-, rfl⟩ | ⟨csL2, cL2, hrL2, hlen2, hcL2, rfl⟩⟩
        rotate_left
        · exact absurd hlen2 (by first | omega | simp)
        have hrL2 := (hrL.later hL1).later hL2
        have hRM2 := (hrM.later hL1).later hL2
        have kw : decide ((21 : Int) ≠ 21) = false := decide_eq_false fun h => h rfl
        (repeat first | (refine And.intro ?_ ?_; first | exact rfl | ((exact fun h => absurd h (by first | decide | (rw [kw]; decide))); intro yy; clear yy) | (rotate_left; (exact fun h => absurd h (by first | decide | (rw [kw]; decide))); intro yy; clear yy) | decide | omega) | (with_reducible refine frc_bytesL (by first | omega | decide) ?_) | (with_reducible refine frc_bytesM (by first | omega | decide) ?_))
        rw [mp_row hrL.raw]
        refine call_same (fn_lfull (W := W2) (ms := ms2) lim false ((dr : Nat) : Int)) [0, 1] rfl (by (repeat first | exact trivial | refine ent1 ?_)) (by (repeat first | exact trivial | refine ent1 ?_)) (fun _ _ => trivial) ?_
        rintro y hsF ⟨rfl, hF⟩
        rw [hF]
        (repeat first | (refine And.intro ?_ ?_; first | exact rfl | ((exact fun h => absurd h (by first | decide | (rw [kw]; decide))); intro yy; clear yy) | (rotate_left; (exact fun h => absurd h (by first | decide | (rw [kw]; decide))); intro yy; clear yy) | decide | omega) | (with_reducible refine frc_bytesL (by first | omega | decide) ?_) | (with_reducible refine frc_bytesM (by first | omega | decide) ?_))
        refine call_past (fn_llist1 hrL2 rfl (by omega) (by omega) hmL (GoodL.small (hlog).good) lim false ((dr : Nat) : Int)) 0 [1, 2] rfl rfl (by (repeat first | exact trivial | refine ent1 ?_)) (by (repeat first | exact trivial | refine ent1 ?_); refine ⟨fun j _ => eqC_cs hrL2.raw (fun _ _ => rfl) j, ?_⟩; (repeat first | exact trivial | refine ent1 ?_)) (fun _ _ => trivial) (fun x hs hr => ?_) ?_
        · obtain ⟨a', c', W', ms', h1, _, _, rfl⟩ := hr
          exact ⟨W', ms', rfl, h1⟩
        rintro y hs' ⟨a3, c3, W3, ms3, hL3, hE3, rfl, rfl⟩
        have hRM3 := hRM2.later hL3
        have hrL3 := hrL2.later hL3
        (repeat first | (refine And.intro ?_ ?_; first | exact rfl | ((exact fun h => absurd h (by first | decide | (rw [kw]; decide))); intro yy; clear yy) | (rotate_left; (exact fun h => absurd h (by first | decide | (rw [kw]; decide))); intro yy; clear yy) | decide | omega) | (with_reducible refine frc_bytesL (by first | omega | decide) ?_) | (with_reducible refine frc_bytesM (by first | omega | decide) ?_))
        refine call_lend [3] 0 [] rfl rfl (by (repeat first | exact trivial | refine ent1 ?_)) NoP.nil (fun _ _ => trivial) (fun W' ms' α hL' hI => ⟨[.c (.slc a3 m.length c3), .c (.slc (some ((α 3).add (0 + 0))) m.length cM)], ?_, (fn_bsame (hE3.later hL') (hRM3.frzF (F := fun j => memB j [3]) (n := m.length) (c := cM) hL' (fun _ _ => rfl) (hI 3 rfl) rfl hmM (by omega))).mono (Res' := fun y hs => y = .a (.c (.bool true)) ∧ hs.drop 1 = []) (fun x hs hr => ?_)⟩) (fun x hs hr => ?_) ?_
        · (repeat first | exact trivial | refine ent1 ?_)
        · obtain ⟨⟨r, hr, rfl⟩, rfl⟩ := hr
          have hr1 : r = true := hr.2 rfl
          subst hr1
          exact ⟨rfl, rfl⟩
        · rw [hr.2]; exact NoP.nil
        rintro y hs' ⟨rfl, hdrop⟩
        rw [hdrop]
        (repeat first | (refine And.intro ?_ ?_; first | exact rfl | ((exact fun h => absurd h (by first | decide | (rw [kw]; decide))); intro yy; clear yy) | (rotate_left; (exact fun h => absurd h (by first | decide | (rw [kw]; decide))); intro yy; clear yy) | decide | omega) | (with_reducible refine frc_bytesL (by first | omega | decide) ?_) | (with_reducible refine frc_bytesM (by first | omega | decide) ?_))
        refine call_same (fn_llen1 (W := W3) (ms := ms3) lim false ((dr : Nat) : Int) m.length cL []) [0, 1, 2] rfl (by (repeat first | exact trivial | refine ent1 ?_)) (by (repeat first | exact trivial | refine ent1 ?_)) (fun _ _ => trivial) ?_
        rintro y hsF ⟨rfl, hF⟩
        rw [hF]
        have kz : decide (((dr : Nat) : Int) ≠ ((dr : Nat) : Int)) = false := decide_eq_false fun h => h rfl
        have kz2 : decide (((dr + 1 : Nat) : Int) ≠ (dr : Int) + 1) = false := decide_eq_false fun h => h (by omega)
        have ky : decide (((m.length : Nat) : Int) ≠ ((m.length : Nat) : Int)) = false := decide_eq_false fun h => h rfl
        (repeat first | (refine And.intro ?_ ?_; first | exact rfl | ((exact fun h => absurd h (by first | decide | (rw [kz]; decide) | (rw [ky]; decide) | (rw [kz2]; decide))); intro yy; clear yy) | (rotate_left; (exact fun h => absurd h (by first | decide | (rw [kz]; decide) | (rw [ky]; decide) | (rw [kz2]; decide))); intro yy; clear yy) | decide | omega) | (with_reducible refine frc_bytesL (by first | omega | decide) ?_) | (with_reducible refine frc_bytesM (by first | omega | decide) ?_))
        refine ⟨.inr (W3, ms3, m, false, dr, csL, cL, csM, cM, i + 1), [0, 1, 2, 3], ⟨⟨rfl, rfl, rfl⟩, ?_⟩, ⟨((hLL.trans hL1).trans hL2).trans hL3, by omega, by omega, by omega, by omega, by omega, by omega, hrL3, hRM3, hlog⟩, (show n - (i + 1) < n - i by omega)⟩
        (repeat first | exact trivial | refine ent1 ?_)
        refine ⟨fun j _ => eqC_cs hrL3.raw (fun _ _ => rfl) j, ?_⟩
        (repeat first | exact trivial | refine ent1 ?_)
        refine ⟨fun j _ => eqC_cs hRM3.raw ?_ j, ?_⟩
        · exact (fun _ _ => rfl)
        (repeat first | exact trivial | refine ent1 ?_)
      have kt : decide (e1.t < z.t) = false := decide_eq_false (by rw [← hlast]; exact ht)
      by_cases hk : e1.k = 19#8
      · have kk : decide (e1.k = 19#8) = true := decide_eq_true hk
        have hadd : addM lim m false dr e1 = (m, false, dr, 5) := by unfold addM; rw [if_neg (by omega), if_neg (by decide), if_neg ht, if_pos hk]
        (repeat first | (refine And.intro ?_ ?_; first | exact rfl | ((exact fun h => absurd h (by first | decide | (rw [kn]; decide) | (rw [kt]; decide) | (rw [kk]; decide))); intro yy; clear yy) | (rotate_left; (exact fun h => absurd h (by first | decide | (rw [kn]; decide) | (rw [kt]; decide) | (rw [kk]; decide))); intro yy; clear yy) | decide | omega) | (with_reducible refine frc_bytesL (by first | omega | decide) ?_) | (with_reducible refine frc_bytesM (by first | omega | decide) ?_))
        refine call_past (fn_ladd1 hx1 (hrL.later hL1) rfl hm0 (by omega) hmL lim false dr (by omega) hadd hD1 hN1) 0 [1, 2] rfl rfl (by (repeat first | exact trivial | refine ent1 ?_)) (by (repeat first | exact trivial | refine ent1 ?_); refine ⟨fun j _ => eqC_cs hrL.raw (fun _ _ => rfl) j, ?_⟩; (repeat first | exact trivial | refine ent1 ?_)) (fun _ _ => trivial) (fun x hs hr => ?_) ?_
        · obtain ⟨W', ms', h1, _, ⟨_, rfl⟩ | ⟨_, _, _, _, _, rfl⟩⟩ := hr
          · exact ⟨W', ms', rfl, h1⟩
          · exact ⟨W', ms', rfl, h1⟩
        rintro y hs' ⟨W2, ms2, hL2, rfl, ⟨-, rfl⟩ | ⟨csL2, cL2, hrL2, hlen2, hcL2, rfl⟩⟩
        rotate_left
        · exact absurd hlen2 (by first | omega | simp)
        have hrL2 := (hrL.later hL1).later hL2
        have hRM2 := (hrM.later hL1).later hL2
        have kw : decide ((5 : Int) ≠ 5) = false := decide_eq_false fun h => h rfl
        (repeat first | (refine And.intro ?_ ?_; first | exact rfl | ((exact fun h => absurd h (by first | decide | (rw [kw]; decide))); intro yy; clear yy) | (rotate_left; (exact fun h => absurd h (by first | decide | (rw [kw]; decide))); intro yy; clear yy) | decide | omega) | (with_reducible refine frc_bytesL (by first | omega | decide) ?_) | (with_reducible refine frc_bytesM (by first | omega | decide) ?_))
        rw [mp_row hrL.raw]
        refine call_same (fn_lfull (W := W2) (ms := ms2) lim false ((dr : Nat) : Int)) [0, 1] rfl (by (repeat first | exact trivial | refine ent1 ?_)) (by (repeat first | exact trivial | refine ent1 ?_)) (fun _ _ => trivial) ?_
        rintro y hsF ⟨rfl, hF⟩
        rw [hF]
        (repeat first | (refine And.intro ?_ ?_; first | exact rfl | ((exact fun h => absurd h (by first | decide | (rw [kw]; decide))); intro yy; clear yy) | (rotate_left; (exact fun h => absurd h (by first | decide | (rw [kw]; decide))); intro yy; clear yy) | decide | omega) | (with_reducible refine frc_bytesL (by first | omega | decide) ?_) | (with_reducible refine frc_bytesM (by first | omega | decide) ?_))
        refine call_past (fn_llist1 hrL2 rfl (by omega) (by omega) hmL (GoodL.small (hlog).good) lim false ((dr : Nat) : Int)) 0 [1, 2] rfl rfl (by (repeat first | exact trivial | refine ent1 ?_)) (by (repeat first | exact trivial | refine ent1 ?_); refine ⟨fun j _ => eqC_cs hrL2.raw (fun _ _ => rfl) j, ?_⟩; (repeat first | exact trivial | refine ent1 ?_)) (fun _ _ => trivial) (fun x hs hr => ?_) ?_
        · obtain ⟨a', c', W', ms', h1, _, _, rfl⟩ := hr
          exact ⟨W', ms', rfl, h1⟩
        rintro y hs' ⟨a3, c3, W3, ms3, hL3, hE3, rfl, rfl⟩
        have hRM3 := hRM2.later hL3
        have hrL3 := hrL2.later hL3
        (repeat first | (refine And.intro ?_ ?_; first | exact rfl | ((exact fun h => absurd h (by first | decide | (rw [kw]; decide))); intro yy; clear yy) | (rotate_left; (exact fun h => absurd h (by first | decide | (rw [kw]; decide))); intro yy; clear yy) | decide | omega) | (with_reducible refine frc_bytesL (by first | omega | decide) ?_) | (with_reducible refine frc_bytesM (by first | omega | decide) ?_))
        refine call_lend [3] 0 [] rfl rfl (by (repeat first | exact trivial | refine ent1 ?_)) NoP.nil (fun _ _ => trivial) (fun W' ms' α hL' hI => ⟨[.c (.slc a3 m.length c3), .c (.slc (some ((α 3).add (0 + 0))) m.length cM)], ?_, (fn_bsame (hE3.later hL') (hRM3.frzF (F := fun j => memB j [3]) (n := m.length) (c := cM) hL' (fun _ _ => rfl) (hI 3 rfl) rfl hmM (by omega))).mono (Res' := fun y hs => y = .a (.c (.bool true)) ∧ hs.drop 1 = []) (fun x hs hr => ?_)⟩) (fun x hs hr => ?_) ?_
        · (repeat first | exact trivial | refine ent1 ?_)
        · obtain ⟨⟨r, hr, rfl⟩, rfl⟩ := hr
          have hr1 : r = true := hr.2 rfl
          subst hr1
          exact ⟨rfl, rfl⟩
        · rw [hr.2]; exact NoP.nil
        rintro y hs' ⟨rfl, hdrop⟩
        rw [hdrop]
        (repeat first | (refine And.intro ?_ ?_; first | exact rfl | ((exact fun h => absurd h (by first | decide | (rw [kw]; decide))); intro yy; clear yy) | (rotate_left; (exact fun h => absurd h (by first | decide | (rw [kw]; decide))); intro yy; clear yy) | decide | omega) | (with_reducible refine frc_bytesL (by first | omega | decide) ?_) | (with_reducible refine frc_bytesM (by first | omega | decide) ?_))
        refine call_same (fn_llen1 (W := W3) (ms := ms3) lim false ((dr : Nat) : Int) m.length cL []) [0, 1, 2] rfl (by (repeat first | exact trivial | refine ent1 ?_)) (by (repeat first | exact trivial | refine ent1 ?_)) (fun _ _ => trivial) ?_
        rintro y hsF ⟨rfl, hF⟩
        rw [hF]
        have kz : decide (((dr : Nat) : Int) ≠ ((dr : Nat) : Int)) = false := decide_eq_false fun h => h rfl
        have kz2 : decide (((dr + 1 : Nat) : Int) ≠ (dr : Int) + 1) = false := decide_eq_false fun h => h (by omega)
        have ky : decide (((m.length : Nat) : Int) ≠ ((m.length : Nat) : Int)) = false := decide_eq_false fun h => h rfl
        (repeat first | (refine And.intro ?_ ?_; first | exact rfl | ((exact fun h => absurd h (by first | decide | (rw [kz]; decide) | (rw [ky]; decide) | (rw [kz2]; decide))); intro yy; clear yy) | (rotate_left; (exact fun h => absurd h (by first | decide | (rw [kz]; decide) | (rw [ky]; decide) | (rw [kz2]; decide))); intro yy; clear yy) | decide | omega) | (with_reducible refine frc_bytesL (by first | omega | decide) ?_) | (with_reducible refine frc_bytesM (by first | omega | decide) ?_))
        refine ⟨.inr (W3, ms3, m, false, dr, csL, cL, csM, cM, i + 1), [0, 1, 2, 3], ⟨⟨rfl, rfl, rfl⟩, ?_⟩, ⟨((hLL.trans hL1).trans hL2).trans hL3, by omega, by omega, by omega, by omega, by omega, by omega, hrL3, hRM3, hlog⟩, (show n - (i + 1) < n - i by omega)⟩
        (repeat first | exact trivial | refine ent1 ?_)
        refine ⟨fun j _ => eqC_cs hrL3.raw (fun _ _ => rfl) j, ?_⟩
        (repeat first | exact trivial | refine ent1 ?_)
        refine ⟨fun j _ => eqC_cs hRM3.raw ?_ j, ?_⟩
        · exact (fun _ _ => rfl)
        (repeat first | exact trivial | refine ent1 ?_)
      have kk : decide (e1.k = 19#8) = false := decide_eq_false hk
      by_cases hl : lim ≤ (m.length : Int) + 1
      · have hlt := (hlog.open_ rfl).2
        have kl : decide ((m.length : Int) = lim - 1) = true := decide_eq_true (by  omega)
        have hadd : addM lim m false dr e1 = (m ++ [⟨19#8, e1.t, [], []⟩], true, dr + 1, 11) := by unfold addM; rw [if_neg (by omega), if_neg (by decide), if_neg ht, if_neg hk, if_pos hl]
        (repeat first | (refine And.intro ?_ ?_; first | exact rfl | ((exact fun h => absurd h (by first | decide | (rw [kn]; decide) | (rw [kt]; decide) | (rw [kk]; decide) | (rw [kl]; decide))); intro yy; clear yy) | (rotate_left; (exact fun h => absurd h (by first | decide | (rw [kn]; decide) | (rw [kt]; decide) | (rw [kk]; decide) | (rw [kl]; decide))); intro yy; clear yy) | decide | omega) | (with_reducible refine frc_bytesL (by first | omega | decide) ?_) | (with_reducible refine frc_bytesM (by first | omega | decide) ?_))
        refine And.intro (show 0 + 4 ≤ 4 by decide) ?_
        (repeat first | (refine And.intro ?_ ?_; first | exact rfl | ((exact fun h => absurd h (by first | decide | (rw [ki]; decide))); intro yy; clear yy) | (rotate_left; (exact fun h => absurd h (by first | decide | (rw [ki]; decide))); intro yy; clear yy) | decide | omega) | (with_reducible refine frc_bytesL (by first | omega | decide) ?_) | (with_reducible refine frc_bytesM (by first | omega | decide) ?_))
        refine And.intro ⟨hmM, Nat.le_of_eq (Nat.zero_add _), (show (m.length + 1) * 64 ≤ 140737488355328 by omega)⟩ ?_
        intro cM2 hcM2
        (repeat first | (refine And.intro ?_ ?_; first | exact rfl | ((exact fun h => absurd h (by first | decide | (rw [ki]; decide))); intro yy; clear yy) | (rotate_left; (exact fun h => absurd h (by first | decide | (rw [ki]; decide))); intro yy; clear yy) | decide | omega) | (with_reducible refine frc_bytesL (by first | omega | decide) ?_) | (with_reducible refine frc_bytesM (by first | omega | decide) ?_))
        have hRM1 : RowAt W1 ms1 (csM ++ flat (evS ⟨19#8, e1.t, [], []⟩ ⟨none, 0, 0, none, 0, 0⟩)) (m ++ [⟨19#8, e1.t, [], []⟩]) := (hrM.later hL1).snoc ⟨SlAt.nul, SlAt.nul⟩
        refine call_past (fn_ladd1 hx1 (hrL.later hL1) rfl hm0 (by omega) hmL lim false dr (by omega) hadd hD1 hN1) 0 [1, 2] rfl rfl (by (repeat first | exact trivial | refine ent1 ?_)) (by (repeat first | exact trivial | refine ent1 ?_); refine ⟨fun j _ => eqC_cs hrL.raw (fun _ _ => rfl) j, ?_⟩; (repeat first | exact trivial | refine ent1 ?_)) (fun _ _ => trivial) (fun x hs hr => ?_) ?_
        · obtain ⟨W', ms', h1, _, ⟨_, rfl⟩ | ⟨_, _, _, _, _, rfl⟩⟩ := hr
          · exact ⟨W', ms', rfl, h1⟩
          · exact ⟨W', ms', rfl, h1⟩
        rintro y hs' ⟨W2, ms2, hL2, rfl, ⟨hbad, _⟩ | ⟨csL2, cL2, hrL2, hlen2, hcL2, rfl⟩⟩
        · exact absurd (congrArg List.length hbad) (by simp)
        have hRM2 := hRM1.later hL2
        have kw : decide ((11 : Int) ≠ 11) = false := decide_eq_false fun h => h rfl
        (repeat first | (refine And.intro ?_ ?_; first | exact rfl | ((exact fun h => absurd h (by first | decide | (rw [kw]; decide))); intro yy; clear yy) | (rotate_left; (exact fun h => absurd h (by first | decide | (rw [kw]; decide))); intro yy; clear yy) | decide | omega) | (with_reducible refine frc_bytesL (by first | omega | decide) ?_) | (with_reducible refine frc_bytesM (by first | omega | decide) ?_))
        rw [mp_row hrL2.raw]
        refine call_same (fn_lfull (W := W2) (ms := ms2) lim true (((dr + 1) : Nat) : Int)) [0, 1] rfl (by (repeat first | exact trivial | refine ent1 ?_)) (by (repeat first | exact trivial | refine ent1 ?_)) (fun _ _ => trivial) ?_
        rintro y hsF ⟨rfl, hF⟩
        rw [hF]
        (repeat first | (refine And.intro ?_ ?_; first | exact rfl | ((exact fun h => absurd h (by first | decide | (rw [kw]; decide))); intro yy; clear yy) | (rotate_left; (exact fun h => absurd h (by first | decide | (rw [kw]; decide))); intro yy; clear yy) | decide | omega) | (with_reducible refine frc_bytesL (by first | omega | decide) ?_) | (with_reducible refine frc_bytesM (by first | omega | decide) ?_))
        refine call_past (fn_llist1 hrL2 hlen2 (by omega) (by omega) hcL2 (GoodL.small (LogOk.full hlog hce ht).good) lim true (((dr + 1) : Nat) : Int)) 0 [1, 7] rfl rfl (by (repeat first | exact trivial | refine ent1 ?_)) (by (repeat first | exact trivial | refine ent1 ?_); refine ⟨fun j _ => eqC_cs hrL2.raw (fun _ _ => rfl) j, ?_⟩; (repeat first | exact trivial | refine ent1 ?_)) (fun _ _ => trivial) (fun x hs hr => ?_) ?_
        · obtain ⟨a', c', W', ms', h1, _, _, rfl⟩ := hr
          exact ⟨W', ms', rfl, h1⟩
        rintro y hs' ⟨a3, c3, W3, ms3, hL3, hE3, rfl, rfl⟩
        have hRM3 := hRM2.later hL3
        have hrL3 := hrL2.later hL3
        (repeat first | (refine And.intro ?_ ?_; first | exact rfl | ((exact fun h => absurd h (by first | decide | (rw [kw]; decide))); intro yy; clear yy) | (rotate_left; (exact fun h => absurd h (by first | decide | (rw [kw]; decide))); intro yy; clear yy) | decide | omega) | (with_reducible refine frc_bytesL (by first | omega | decide) ?_) | (with_reducible refine frc_bytesM (by first | omega | decide) ?_))
        refine call_lend [6] 0 [] rfl rfl (by (repeat first | exact trivial | refine ent1 ?_)) NoP.nil (fun _ _ => trivial) (fun W' ms' α hL' hI => ⟨[.c (.slc a3 (m.length + 1) c3), .c (.slc (some ((α 6).add (0 + 0))) (m.length + 1) cM2)], ?_, (fn_bsame (hE3.later hL') (hRM3.frzF (F := fun j => memB j [6]) (n := (m.length + 1)) (c := cM2) hL' (by exact fun j hj => app_cs (by rw [hrM.len]) (fun _ _ => rfl) rfl (fun j hj => updN_new hj) j hj) (hI 6 rfl) hlen2 hcM2 (by omega))).mono (Res' := fun y hs => y = .a (.c (.bool true)) ∧ hs.drop 1 = []) (fun x hs hr => ?_)⟩) (fun x hs hr => ?_) ?_
        · (repeat first | exact trivial | refine ent1 ?_)
        · obtain ⟨⟨r, hr, rfl⟩, rfl⟩ := hr
          have hr1 : r = true := hr.2 rfl
          subst hr1
          exact ⟨rfl, rfl⟩
        · rw [hr.2]; exact NoP.nil
        rintro y hs' ⟨rfl, hdrop⟩
        rw [hdrop]
        (repeat first | (refine And.intro ?_ ?_; first | exact rfl | ((exact fun h => absurd h (by first | decide | (rw [kw]; decide))); intro yy; clear yy) | (rotate_left; (exact fun h => absurd h (by first | decide | (rw [kw]; decide))); intro yy; clear yy) | decide | omega) | (with_reducible refine frc_bytesL (by first | omega | decide) ?_) | (with_reducible refine frc_bytesM (by first | omega | decide) ?_))
        refine call_same (fn_llen1 (W := W3) (ms := ms3) lim true (((dr + 1) : Nat) : Int) (m.length + 1) cL2 []) [0, 1, 7] rfl (by (repeat first | exact trivial | refine ent1 ?_)) (by (repeat first | exact trivial | refine ent1 ?_)) (fun _ _ => trivial) ?_
        rintro y hsF ⟨rfl, hF⟩
        rw [hF]
        have kz : decide ((((dr + 1) : Nat) : Int) ≠ (((dr + 1) : Nat) : Int)) = false := decide_eq_false fun h => h rfl
        have kz2 : decide (((dr + 1 : Nat) : Int) ≠ (dr : Int) + 1) = false := decide_eq_false fun h => h (by omega)
        have ky : decide ((((m.length + 1) : Nat) : Int) ≠ (((m.length + 1) : Nat) : Int)) = false := decide_eq_false fun h => h rfl
        (repeat first | (refine And.intro ?_ ?_; first | exact rfl | ((exact fun h => absurd h (by first | decide | (rw [kz]; decide) | (rw [ky]; decide) | (rw [kz2]; decide))); intro yy; clear yy) | (rotate_left; (exact fun h => absurd h (by first | decide | (rw [kz]; decide) | (rw [ky]; decide) | (rw [kz2]; decide))); intro yy; clear yy) | decide | omega) | (with_reducible refine frc_bytesL (by first | omega | decide) ?_) | (with_reducible refine frc_bytesM (by first | omega | decide) ?_))
        refine ⟨.inr (W3, ms3, (m ++ [⟨19#8, e1.t, [], []⟩]), true, (dr + 1), csL2, cL2, (csM ++ flat (evS ⟨19#8, e1.t, [], []⟩ ⟨none, 0, 0, none, 0, 0⟩)), cM2, i + 1), [0, 1, 7, 6], ⟨⟨rfl, rfl, rfl⟩, ?_⟩, ⟨((hLL.trans hL1).trans hL2).trans hL3, by omega, by omega, by omega, by omega, by omega, by omega, hrL3, hRM3, LogOk.full hlog hce ht⟩, (show n - (i + 1) < n - i by omega)⟩
        (repeat first | exact trivial | refine ent1 ?_)
        refine ⟨fun j _ => eqC_cs hrL3.raw (fun _ _ => rfl) j, ?_⟩
        (repeat first | exact trivial | refine ent1 ?_)
        refine ⟨fun j _ => eqC_cs hRM3.raw ?_ j, ?_⟩
        · exact (by exact fun j hj => app_cs (by rw [hrM.len]) (fun _ _ => rfl) rfl (fun j hj => updN_new hj) j hj)
        (repeat first | exact trivial | refine ent1 ?_)
      · have kl : decide ((m.length : Int) = lim - 1) = false := decide_eq_false (by  omega)
        have hadd : addM lim m false dr e1 = (m ++ [e1], false, dr, 0) := by unfold addM; rw [if_neg (by omega), if_neg (by decide), if_neg ht, if_neg hk, if_neg hl]
        (repeat first | (refine And.intro ?_ ?_; first | exact rfl | ((exact fun h => absurd h (by first | decide | (rw [kn]; decide) | (rw [kt]; decide) | (rw [kk]; decide) | (rw [kl]; decide))); intro yy; clear yy) | (rotate_left; (exact fun h => absurd h (by first | decide | (rw [kn]; decide) | (rw [kt]; decide) | (rw [kk]; decide) | (rw [kl]; decide))); intro yy; clear yy) | decide | omega) | (with_reducible refine frc_bytesL (by first | omega | decide) ?_) | (with_reducible refine frc_bytesM (by first | omega | decide) ?_))
        refine And.intro (show 0 + 4 ≤ 4 by decide) ?_
        (repeat first | (refine And.intro ?_ ?_; first | exact rfl | ((exact fun h => absurd h (by first | decide | (rw [ki]; decide))); intro yy; clear yy) | (rotate_left; (exact fun h => absurd h (by first | decide | (rw [ki]; decide))); intro yy; clear yy) | decide | omega) | (with_reducible refine frc_bytesL (by first | omega | decide) ?_) | (with_reducible refine frc_bytesM (by first | omega | decide) ?_))
        refine And.intro ⟨hmM, Nat.le_of_eq (Nat.zero_add _), (show (m.length + 1) * 64 ≤ 140737488355328 by omega)⟩ ?_
        intro cM2 hcM2
        (repeat first | (refine And.intro ?_ ?_; first | exact rfl | ((exact fun h => absurd h (by first | decide | (rw [ki]; decide))); intro yy; clear yy) | (rotate_left; (exact fun h => absurd h (by first | decide | (rw [ki]; decide))); intro yy; clear yy) | decide | omega) | (with_reducible refine frc_bytesL (by first | omega | decide) ?_) | (with_reducible refine frc_bytesM (by first | omega | decide) ?_))
        have hRM1 : RowAt W1 ms1 (csM ++ flat (evS e1 x1)) (m ++ [e1]) := (hrM.later hL1).snoc hx1
        refine call_past (fn_ladd1 hx1 (hrL.later hL1) rfl hm0 (by omega) hmL lim false dr (by omega) hadd hD1 hN1) 0 [1, 2] rfl rfl (by (repeat first | exact trivial | refine ent1 ?_)) (by (repeat first | exact trivial | refine ent1 ?_); refine ⟨fun j _ => eqC_cs hrL.raw (fun _ _ => rfl) j, ?_⟩; (repeat first | exact trivial | refine ent1 ?_)) (fun _ _ => trivial) (fun x hs hr => ?_) ?_
        · obtain ⟨W', ms', h1, _, ⟨_, rfl⟩ | ⟨_, _, _, _, _, rfl⟩⟩ := hr
          · exact ⟨W', ms', rfl, h1⟩
          · exact ⟨W', ms', rfl, h1⟩
        rintro y hs' ⟨W2, ms2, hL2, rfl, ⟨hbad, _⟩ | ⟨csL2, cL2, hrL2, hlen2, hcL2, rfl⟩⟩
        · exact absurd (congrArg List.length hbad) (by simp)
        have hRM2 := hRM1.later hL2
        have kw : decide ((0 : Int) ≠ 0) = false := decide_eq_false fun h => h rfl
        (repeat first | (refine And.intro ?_ ?_; first | exact rfl | ((exact fun h => absurd h (by first | decide | (rw [kw]; decide))); intro yy; clear yy) | (rotate_left; (exact fun h => absurd h (by first | decide | (rw [kw]; decide))); intro yy; clear yy) | decide | omega) | (with_reducible refine frc_bytesL (by first | omega | decide) ?_) | (with_reducible refine frc_bytesM (by first | omega | decide) ?_))
        rw [mp_row hrL2.raw]
        refine call_same (fn_lfull (W := W2) (ms := ms2) lim false ((dr : Nat) : Int)) [0, 1] rfl (by (repeat first | exact trivial | refine ent1 ?_)) (by (repeat first | exact trivial | refine ent1 ?_)) (fun _ _ => trivial) ?_
        rintro y hsF ⟨rfl, hF⟩
        rw [hF]
        (repeat first | (refine And.intro ?_ ?_; first | exact rfl | ((exact fun h => absurd h (by first | decide | (rw [kw]; decide))); intro yy; clear yy) | (rotate_left; (exact fun h => absurd h (by first | decide | (rw [kw]; decide))); intro yy; clear yy) | decide | omega) | (with_reducible refine frc_bytesL (by first | omega | decide) ?_) | (with_reducible refine frc_bytesM (by first | omega | decide) ?_))
        refine call_past (fn_llist1 hrL2 hlen2 (by omega) (by omega) hcL2 (GoodL.small (LogOk.next hlog hce ht hk hl).good) lim false ((dr : Nat) : Int)) 0 [1, 7] rfl rfl (by (repeat first | exact trivial | refine ent1 ?_)) (by (repeat first | exact trivial | refine ent1 ?_); refine ⟨fun j _ => eqC_cs hrL2.raw (fun _ _ => rfl) j, ?_⟩; (repeat first | exact trivial | refine ent1 ?_)) (fun _ _ => trivial) (fun x hs hr => ?_) ?_
        · obtain ⟨a', c', W', ms', h1, _, _, rfl⟩ := hr
          exact ⟨W', ms', rfl, h1⟩
        rintro y hs' ⟨a3, c3, W3, ms3, hL3, hE3, rfl, rfl⟩
        have hRM3 := hRM2.later hL3
        have hrL3 := hrL2.later hL3
        (repeat first | (refine And.intro ?_ ?_; first | exact rfl | ((exact fun h => absurd h (by first | decide | (rw [kw]; decide))); intro yy; clear yy) | (rotate_left; (exact fun h => absurd h (by first | decide | (rw [kw]; decide))); intro yy; clear yy) | decide | omega) | (with_reducible refine frc_bytesL (by first | omega | decide) ?_) | (with_reducible refine frc_bytesM (by first | omega | decide) ?_))
        refine call_lend [6] 0 [] rfl rfl (by (repeat first | exact trivial | refine ent1 ?_)) NoP.nil (fun _ _ => trivial) (fun W' ms' α hL' hI => ⟨[.c (.slc a3 (m.length + 1) c3), .c (.slc (some ((α 6).add (0 + 0))) (m.length + 1) cM2)], ?_, (fn_bsame (hE3.later hL') (hRM3.frzF (F := fun j => memB j [6]) (n := (m.length + 1)) (c := cM2) hL' (by exact fun j hj => app_cs (by rw [hrM.len]) (fun _ _ => rfl) rfl (fun j hj => updN_new hj) j hj) (hI 6 rfl) hlen2 hcM2 (by omega))).mono (Res' := fun y hs => y = .a (.c (.bool true)) ∧ hs.drop 1 = []) (fun x hs hr => ?_)⟩) (fun x hs hr => ?_) ?_
        · (repeat first | exact trivial | refine ent1 ?_)
        · obtain ⟨⟨r, hr, rfl⟩, rfl⟩ := hr
          have hr1 : r = true := hr.2 rfl
          subst hr1
          exact ⟨rfl, rfl⟩
        · rw [hr.2]; exact NoP.nil
        rintro y hs' ⟨rfl, hdrop⟩
        rw [hdrop]
        (repeat first | (refine And.intro ?_ ?_; first | exact rfl | ((exact fun h => absurd h (by first | decide | (rw [kw]; decide))); intro yy; clear yy) | (rotate_left; (exact fun h => absurd h (by first | decide | (rw [kw]; decide))); intro yy; clear yy) | decide | omega) | (with_reducible refine frc_bytesL (by first | omega | decide) ?_) | (with_reducible refine frc_bytesM (by first | omega | decide) ?_))
        refine call_same (fn_llen1 (W := W3) (ms := ms3) lim false ((dr : Nat) : Int) (m.length + 1) cL2 []) [0, 1, 7] rfl (by (repeat first | exact trivial | refine ent1 ?_)) (by (repeat first | exact trivial | refine ent1 ?_)) (fun _ _ => trivial) ?_
        rintro y hsF ⟨rfl, hF⟩
        rw [hF]
        have kz : decide (((dr : Nat) : Int) ≠ ((dr : Nat) : Int)) = false := decide_eq_false fun h => h rfl
        have kz2 : decide (((dr + 1 : Nat) : Int) ≠ (dr : Int) + 1) = false := decide_eq_false fun h => h (by omega)
        have ky : decide ((((m.length + 1) : Nat) : Int) ≠ (((m.length + 1) : Nat) : Int)) = false := decide_eq_false fun h => h rfl
        (repeat first | (refine And.intro ?_ ?_; first | exact rfl | ((exact fun h => absurd h (by first | decide | (rw [kz]; decide) | (rw [ky]; decide) | (rw [kz2]; decide))); intro yy; clear yy) | (rotate_left; (exact fun h => absurd h (by first | decide | (rw [kz]; decide) | (rw [ky]; decide) | (rw [kz2]; decide))); intro yy; clear yy) | decide | omega) | (with_reducible refine frc_bytesL (by first | omega | decide) ?_) | (with_reducible refine frc_bytesM (by first | omega | decide) ?_))
        refine ⟨.inr (W3, ms3, (m ++ [e1]), false, dr, csL2, cL2, (csM ++ flat (evS e1 x1)), cM2, i + 1), [0, 1, 7, 6], ⟨⟨rfl, rfl, rfl⟩, ?_⟩, ⟨((hLL.trans hL1).trans hL2).trans hL3, by omega, by omega, by omega, by omega, by omega, by omega, hrL3, hRM3, LogOk.next hlog hce ht hk hl⟩, (show n - (i + 1) < n - i by omega)⟩
        (repeat first | exact trivial | refine ent1 ?_)
        refine ⟨fun j _ => eqC_cs hrL3.raw (fun _ _ => rfl) j, ?_⟩
        (repeat first | exact trivial | refine ent1 ?_)
        refine ⟨fun j _ => eqC_cs hRM3.raw ?_ j, ?_⟩
        · exact (by exact fun j hj => app_cs (by rw [hrM.len]) (fun _ _ => rfl) rfl (fun j hj => updN_new hj) j hj)
        (repeat first | exact trivial | refine ent1 ?_)
    · have ki : decide ((i : Int) < (n : Int)) = false := decide_eq_false (by omega)
      have kz : decide ((0 : Int) ≠ 0) = false := by decide
      (repeat first | (refine And.intro ?_ ?_; first | exact rfl | ((exact fun h => absurd h (by first | decide | (rw [ki]; decide))); intro yy; clear yy) | (rotate_left; (exact fun h => absurd h (by first | decide | (rw [ki]; decide))); intro yy; clear yy) | decide | omega) | (with_reducible refine frc_bytesL (by first | omega | decide) ?_) | (with_reducible refine frc_bytesM (by first | omega | decide) ?_))
      refine call_past (fn_llist1 hrL rfl hm0 (by omega) hmL (GoodL.small hlog.good) lim cut ((dr : Nat) : Int)) 0 [1, 2] rfl rfl (by (repeat first | exact trivial | refine ent1 ?_)) (by (repeat first | exact trivial | refine ent1 ?_); refine ⟨fun j _ => eqC_cs hrL.raw (fun _ _ => rfl) j, ?_⟩; (repeat first | exact trivial | refine ent1 ?_)) (fun _ _ => trivial) (fun x hs hr => ?_) ?_
      · obtain ⟨a', c', W', ms', h1, _, _, rfl⟩ := hr
        exact ⟨W', ms', rfl, h1⟩
      rintro y hs' ⟨a3, c3, W2, ms2, hL2, hE2, rfl, rfl⟩
      have henc := enc_of (es := m) (by omega) hlog.good
      (repeat first | (refine And.intro ?_ ?_; first | exact rfl | ((exact fun h => absurd h (by first | decide)); intro yy; clear yy) | (rotate_left; (exact fun h => absurd h (by first | decide)); intro yy; clear yy) | decide | omega) | (with_reducible refine frc_bytesL (by first | omega | decide) ?_) | (with_reducible refine frc_bytesM (by first | omega | decide) ?_))
      refine call_same ((fn_bencode hE2).mono (Res' := fun y hs => ∃ (t : Sl), t.l = encB m ∧ t.Ok ∧ y = .tup [.c (svC 1 t), .c (.int .i64 0)] ∧ hs = [[.past W2 ms2], svB t]) (fun x hs hr => ?_)) [0] rfl (by (repeat first | exact trivial | refine ent1 ?_)) (by (repeat first | exact trivial | refine ent1 ?_)) (fun _ _ => trivial) ?_
      · obtain ⟨t, e, hM, ht, rfl, rfl⟩ := hr.2 (by omega)
        rw [henc] at hM
        simp only [Prod.mk.injEq] at hM
        obtain ⟨h1, rfl⟩ := hM
        exact ⟨t, h1.symm, ht, rfl, rfl⟩
      rintro x hs' ⟨t, htl, ht, rfl, rfl⟩
      (repeat first | (refine And.intro ?_ ?_; first | exact rfl | ((exact fun h => absurd h (by first | decide)); intro yy; clear yy) | (rotate_left; (exact fun h => absurd h (by first | decide)); intro yy; clear yy) | decide | omega) | (with_reducible refine frc_bytesL (by first | omega | decide) ?_) | (with_reducible refine frc_bytesM (by first | omega | decide) ?_))
      refine call_past (fn_bdecode (W := W2) (ms := ms2) t ht) 0 [4] rfl rfl (by (repeat first | exact trivial | refine ent1 ?_)) ?_ (fun _ _ => trivial) (fun x hs hr => ?_) ?_
      · (repeat first | exact trivial | refine ent1 ?_)
        first | refine eqC_btsM ?_ | refine eqC_bts ?_
        (repeat first | exact trivial | refine ent1 ?_)
      · obtain ⟨es4, a4, n4, c4, e4, W4, ms4, _, hL4, _, _, rfl⟩ := hr
        exact ⟨W4, ms4, rfl, hL4⟩
      rintro y hs' ⟨es4, a4, n4, c4, e4, W4, ms4, hD4, hL4, hE4, rfl, rfl⟩
      rw [htl, dec_enc (show encM m = (encB m, 0) from henc)] at hD4
      obtain ⟨rfl, rfl⟩ : m = es4 ∧ 0 = e4 := by simp only [Prod.mk.injEq] at hD4; exact hD4
      (repeat first | (refine And.intro ?_ ?_; first | exact rfl | ((exact fun h => absurd h (by first | decide)); intro yy; clear yy) | (rotate_left; (exact fun h => absurd h (by first | decide)); intro yy; clear yy) | decide | omega) | (with_reducible refine frc_bytesL (by first | omega | decide) ?_) | (with_reducible refine frc_bytesM (by first | omega | decide) ?_))
      generalize most.tmod 50 = kk
      obtain ⟨k2, hk2⟩ : ∃ k2 : Nat, (if (m.length : Int) < (if kk < 0 then 0 else kk) then (m.length : Int) else if kk < 0 then 0 else kk) = (k2 : Int) := ⟨_, (Int.toNat_of_nonneg (by split <;> first | omega | (split <;> omega))).symm⟩
      have hk2n : k2 ≤ m.length := by split at hk2 <;> omega
      rw [hk2]
      obtain ⟨o9, ho9⟩ : ∃ o9, (if cM = k2 then 0 else 0 + k2 * 4) = o9 := ⟨_, rfl⟩
      rw [show (if cM = ((k2 : Int)).toNat then 0 else 0 + ((k2 : Int)).toNat * 4) = o9 from ho9]
      have hrM4 := (hrM.later hL2).later hL4
      have hrL4 := (hrL.later hL2).later hL4
      refine call_same (fn_lfullN (W := W4) (ms := ms4)) [0] rfl (by (repeat first | exact trivial | refine ent1 ?_)) (by (repeat first | exact trivial | refine ent1 ?_)) (fun _ _ => trivial) ?_
      rintro y hsF ⟨rfl, hF⟩
      rw [hF]
      have k0 : decide ((0 : Int) = 0) = true := by decide
      (repeat first | (refine And.intro ?_ ?_; first | exact rfl | ((exact fun h => absurd h (by first | decide | (rw [k0]; decide))); intro yy; clear yy) | (rotate_left; (exact fun h => absurd h (by first | decide | (rw [k0]; decide))); intro yy; clear yy) | decide | omega) | (with_reducible refine frc_bytesL (by first | omega | decide) ?_) | (with_reducible refine frc_bytesM (by first | omega | decide) ?_))
      refine call_lend [3] 0 [] rfl rfl (by (repeat first | exact trivial | refine ent1 ?_)) NoP.nil (fun _ _ => trivial) (fun W' ms' α hL' hI => ⟨[.c (.slc a4 n4 c4), .c (.slc (some ((α 3).add (0 + 0))) m.length cM)], ?_, (fn_bsame (hE4.later hL') (hrM4.frz (F := fun j => memB j [3]) hL' (hI 3 rfl) rfl hmM (by omega))).mono (Res' := fun y hs => y = .a (.c (.bool true)) ∧ hs.drop 1 = []) (fun x hs hr => ?_)⟩) (fun x hs hr => ?_) ?_
      · (repeat first | exact trivial | refine ent1 ?_)
      · obtain ⟨⟨r, hr, rfl⟩, rfl⟩ := hr
        have hr1 : r = true := hr.2 rfl
        subst hr1
        exact ⟨rfl, rfl⟩
      · rw [hr.2]; exact NoP.nil
      rintro y hs' ⟨rfl, hdrop⟩
      rw [hdrop]
      (repeat first | (refine And.intro ?_ ?_; first | exact rfl | ((exact fun h => absurd h (by first | decide | (rw [k0]; decide))); intro yy; clear yy) | (rotate_left; (exact fun h => absurd h (by first | decide | (rw [k0]; decide))); intro yy; clear yy) | decide | omega) | (with_reducible refine frc_bytesL (by first | omega | decide) ?_) | (with_reducible refine frc_bytesM (by first | omega | decide) ?_))
      refine call_past (fn_lsince1 hrL4 rfl hm0 (by omega) hmL (GoodL.small hlog.good) lim cut ((dr : Nat) : Int) kk k2 hk2) 0 [1, 2] rfl rfl (by (repeat first | exact trivial | refine ent1 ?_)) (by (repeat first | exact trivial | refine ent1 ?_); refine ⟨fun j _ => eqC_cs hrL.raw (fun _ _ => rfl) j, ?_⟩; (repeat first | exact trivial | refine ent1 ?_)) (fun _ _ => trivial) (fun x hs hr => ?_) ?_
      · obtain ⟨a', c', W', ms', h1, _, _, rfl⟩ := hr
        exact ⟨W', ms', rfl, h1⟩
      rintro y hs' ⟨a5, c5, W5, ms5, hL5, hE5, rfl, rfl⟩
      have hrM5 := hrM4.later hL5
      (repeat first | (refine And.intro ?_ ?_; first | exact rfl | ((exact fun h => absurd h (by first | decide | (rw [k0]; decide))); intro yy; clear yy) | (rotate_left; (exact fun h => absurd h (by first | decide | (rw [k0]; decide))); intro yy; clear yy) | decide | omega) | (with_reducible refine frc_bytesL (by first | omega | decide) ?_) | (with_reducible refine frc_bytesM (by first | omega | decide) ?_))
      refine call_lend [3] 0 [] rfl rfl (by (repeat first | exact trivial | refine ent1 ?_)) NoP.nil (fun _ _ => trivial) (fun W' ms' α hL' hI => ⟨[.c (.slc a5 (m.length - k2) c5), .c (.slc (some ((α 3).add (0 + o9))) (m.length - k2) (cM - k2))], ?_, (fn_bsame (hE5.later hL') (subRow (F := fun j => memB j [3]) hrM5 hL' rfl hk2n hmM ho9 (by omega) (hI 3 rfl))).mono (Res' := fun y hs => y = .a (.c (.bool true)) ∧ hs.drop 1 = []) (fun x hs hr => ?_)⟩) (fun x hs hr => ?_) ?_
      · (repeat first | exact trivial | refine ent1 ?_)
      · obtain ⟨⟨r, hr, rfl⟩, rfl⟩ := hr
        have hr1 : r = true := hr.2 rfl
        subst hr1
        exact ⟨rfl, rfl⟩
      · rw [hr.2]; exact NoP.nil
      rintro y hs' ⟨rfl, hdrop⟩
      rw [hdrop]
      (repeat first | (refine And.intro ?_ ?_; first | exact rfl | ((exact fun h => absurd h (by first | decide | (rw [k0]; decide))); intro yy; clear yy) | (rotate_left; (exact fun h => absurd h (by first | decide | (rw [k0]; decide))); intro yy; clear yy) | decide | omega) | (with_reducible refine frc_bytesL (by first | omega | decide) ?_) | (with_reducible refine frc_bytesM (by first | omega | decide) ?_))
      refine call_same (fn_laddN (W := W5) (ms := ms5) ⟨0#8, 0#64, [], []⟩ ⟨none, 0, 0, none, 0, 0⟩) [0] rfl (by (repeat first | exact trivial | refine ent1 ?_)) (by (repeat first | exact trivial | refine ent1 ?_)) (fun _ _ => trivial) ?_
      rintro y hsF ⟨rfl, hF⟩
      rw [hF]
      have k1 : decide ((1 : Int) = 1) = true := by decide
      (repeat first | (refine And.intro ?_ ?_; first | exact rfl | ((exact fun h => absurd h (by first | decide | (rw [k0]; decide) | (rw [k1]; decide))); intro yy; clear yy) | (rotate_left; (exact fun h => absurd h (by first | decide | (rw [k0]; decide) | (rw [k1]; decide))); intro yy; clear yy) | decide | omega) | (with_reducible refine frc_bytesL (by first | omega | decide) ?_) | (with_reducible refine frc_bytesM (by first | omega | decide) ?_))
      refine call_same (fn_llenN (W := W5) (ms := ms5)) [0] rfl (by (repeat first | exact trivial | refine ent1 ?_)) (by (repeat first | exact trivial | refine ent1 ?_)) (fun _ _ => trivial) ?_
      rintro y hsF ⟨rfl, hF⟩
      rw [hF]
      (repeat first | (refine And.intro ?_ ?_; first | exact rfl | ((exact fun h => absurd h (by first | decide | (rw [k0]; decide) | (rw [k1]; decide))); intro yy; clear yy) | (rotate_left; (exact fun h => absurd h (by first | decide | (rw [k0]; decide) | (rw [k1]; decide))); intro yy; clear yy) | decide | omega) | (with_reducible refine frc_bytesL (by first | omega | decide) ?_) | (with_reducible refine frc_bytesM (by first | omega | decide) ?_))
      refine call_same (fn_llistN (W := W5) (ms := ms5)) [0] rfl (by (repeat first | exact trivial | refine ent1 ?_)) (by (repeat first | exact trivial | refine ent1 ?_)) (fun _ _ => trivial) ?_
      rintro y hsF ⟨rfl, hF⟩
      rw [hF]
      (repeat first | (refine And.intro ?_ ?_; first | exact rfl | ((exact fun h => absurd h (by first | decide | (rw [k0]; decide) | (rw [k1]; decide))); intro yy; clear yy) | (rotate_left; (exact fun h => absurd h (by first | decide | (rw [k0]; decide) | (rw [k1]; decide))); intro yy; clear yy) | decide | omega) | (with_reducible refine frc_bytesL (by first | omega | decide) ?_) | (with_reducible refine frc_bytesM (by first | omega | decide) ?_))
      refine call_same (fn_lsinceN (W := W5) (ms := ms5) kk) [0] rfl (by (repeat first | exact trivial | refine ent1 ?_)) (by (repeat first | exact trivial | refine ent1 ?_)) (fun _ _ => trivial) ?_
      rintro y hsF ⟨rfl, rfl⟩
      (repeat first | (refine And.intro ?_ ?_; first | exact rfl | ((exact fun h => absurd h (by first | decide | (rw [k0]; decide) | (rw [k1]; decide))); intro yy; clear yy) | (rotate_left; (exact fun h => absurd h (by first | decide | (rw [k0]; decide) | (rw [k1]; decide))); intro yy; clear yy) | decide | omega) | (with_reducible refine frc_bytesL (by first | omega | decide) ?_) | (with_reducible refine frc_bytesM (by first | omega | decide) ?_))
      refine ⟨.a (.c (.bool true)), [[.past W5 ms5]], ⟨[0], ⟨rfl, rfl, rfl⟩, ?_⟩, rfl⟩
      (repeat first | exact trivial | refine ent1 ?_)
      done
end Sx
end Go.Proofs.Ytdakmieapdpidaa
end

section
/-
  Truth values as arguments, opened. No condition.
-/
namespace Go.Proofs.Ytdakmieapdpidaa
set_option linter.unusedVariables false
namespace Sx
open Go.RowKit Go.ChangeShapes Go.WideShapes Sha Vi Ev
variable {H : Type} {enc : TypeId × Value → H} {w : World} {base : Nat} {held : Bool}
set_option maxRecDepth 100000 in
theorem open_bools {rc : Reach} {b0 : Nat} {v : Value} {d : DataW H} {p : List MemPlace} (hval : Value.okWide Try.prog w rc b0 46 v) (h : DataW.Trod enc Try.prog w base (fun _ => true) held 46 v d p) :
    ∃ (a : Option Addr) (n c : Nat) (bs : List Bool), v = .slice a n c ∧ BoAt w [] a n c bs := by
  obtain ⟨a0, n0, c0, rfl⟩ := okWide_slice Try.underlying46 hval
  have hspot := okWide_spot Try.underlying46 hval
  obtain ⟨fuel, hf⟩ := h
  rcases DataW.trod_slice Try.underlying46 hf with ⟨hcs, _⟩ | ⟨a, len, cap, elems, rest, m, _, hcs, _, hb, hl, hm, hlen, hel, hsp, _⟩
  · simp [Value.cells] at hcs
    obtain ⟨rfl, rfl, rfl⟩ := hcs
    exact ⟨none, 0, 0, [], rfl, SlAt.nul⟩
  simp [Value.cells] at hcs
  obtain ⟨rfl, rfl, rfl⟩ := hcs
  have hsz : Try.prog.cellsOf 4 = 1 := by kernel_rfl
  rw [hsz] at hel
  obtain ⟨B, f, sp⟩ := a
  obtain rfl : sp = none := hspot _ rfl
  have hcap : n0 ≤ 9223372036854775807 := by (have : c0 ≤ maxLen := hm; unfold maxLen at this; omega)
  have each : ∀ k, ∃ y : Bool, k < n0 → w.cell? ((⟨B, f, none⟩ : Addr).add k) = some (.bool y) := by
    intro k
    by_cases hk : k < n0
    · have h1 := hel k hk
      rw [List.getElem?_eq_getElem (by omega), Option.bind_eq_some_iff] at h1
      obtain ⟨cs, hcs, ht⟩ := h1
      obtain ⟨hb', hlen', hget⟩ := World.cells?_some hcs
      have h0 := hget 0 (by omega)
      obtain ⟨y, hy, _⟩ := DataW.trod_bool Try.underlying4 ht
      rw [hy] at h0
      refine ⟨y, fun _ => ?_⟩
      rw [Nat.mul_one, add_none, add_none, Nat.add_zero, ← add_none] at h0
      exact h0
    · exact ⟨false, fun h => absurd h hk⟩
  obtain ⟨g, hg⟩ := Classical.axiomOfChoice each
  refine ⟨some ⟨B, f, none⟩, n0, c0, (List.range n0).map g, rfl, by simp, hl, hcap, (fun e => by cases e), fun x e hc => ?_⟩
  cases e
  rcases Nat.eq_zero_or_pos n0 with hn | hn
  · subst hn
    obtain ⟨hr1, hr2⟩ := hsp rfl
    rw [hsz] at hr2
    have h1 := hr2 0 (by omega)
    rw [List.getElem?_eq_getElem (by omega), Option.bind_eq_some_iff] at h1
    obtain ⟨cs, hcs, ht⟩ := h1
    obtain ⟨hb', hlen', hget⟩ := World.cells?_some hcs
    have h0 := hget 0 (by omega)
    rw [List.getElem?_eq_getElem (by omega)] at h0
    have := cell_block h0
    exact ⟨rfl, by simpa [Addr.add] using this, List.not_mem_nil, fun j y e => by simp at e⟩
  · refine ⟨rfl, ?_, List.not_mem_nil, fun j y e => ?_⟩
    · have := cell_block (hg 0 hn)
      simpa [Addr.add] using this
    · have hj : j < n0 := by have := (List.getElem?_eq_some_iff.1 e).1; simpa using this
      rw [List.getElem?_map, List.getElem?_map, List.getElem?_range hj] at e
      simp only [Option.map_some, Option.some.injEq] at e
      subst e
      refine ⟨_, ?_, rfl⟩
      have := hg j hj
      rwa [show (⟨B, f, none⟩ : Addr).add j = ⟨B, f + j, none⟩ by unfold Addr.add; simp] at this
end Sx
end Go.Proofs.Ytdakmieapdpidaa
end
