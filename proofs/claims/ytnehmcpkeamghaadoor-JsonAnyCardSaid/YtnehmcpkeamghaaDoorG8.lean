/-
  Texts of this claim, part 8: JsO, JsK, JsW, JsY, JsZ, JtA, JtB. No condition of its own.
-/
import Derived.Test.YtnehmcpkeamghaaDoorG7
section
/-
  The reader of texts: an object. No condition.
-/
namespace Go.Proofs.YtnehmcpkeamghaaDoor
set_option linter.unusedVariables false
namespace Sx
open Go.RowKit Sha Vi Js

abbrev vo0 : List Seg := [.one (.w8 6#8), .one (.w64 0#64), .one (.str []), .one (.slc none 0 0), .one (.slc none 0 0)]
abbrev vo1 (i n c j m e : Nat) : List Seg := [.one (.w8 6#8), .one (.w64 0#64), .one (.str []), .one (.sl i 0 0 n c), .one (.sl j 0 0 m e)]
theorem pobj_name {pv : Bs → R JT} {f : Nat} {l : Bs} {acc : List JT} {ns : List Bs} {e : Int} (h : pname l ns = .bad e) : pobj pv (f + 1) l acc ns = .bad e := by
  rw [pobj, h]
theorem pobj_val {pv : Bs → R JT} {f : Nat} {l r : Bs} {acc : List JT} {ns : List Bs} {t : Bs} {e : Int} (h : pname l ns = .ok t r) (h2 : pv r = .bad e) : pobj pv (f + 1) l acc ns = .bad e := by
  rw [pobj, h]
  dsimp only
  rw [h2]
theorem pobj_next {pv : Bs → R JT} {f : Nat} {l r q r' : Bs} {acc : List JT} {ns : List Bs} {t : Bs} {x : JT} (h : pname l ns = .ok t r) (h2 : pv r = .ok x q) (hb : blanks q = 44#8 :: r') : pobj pv (f + 1) l acc ns = pobj pv f r' (acc ++ [x]) (ns ++ [t]) := by
  rw [pobj, h]
  dsimp only
  rw [h2]
  dsimp only
  rw [hb]
  dsimp only
  rw [if_pos rfl]
theorem pobj_end {pv : Bs → R JT} {f : Nat} {l r q r' : Bs} {acc : List JT} {ns : List Bs} {t : Bs} {x : JT} (h : pname l ns = .ok t r) (h2 : pv r = .ok x q) (hb : blanks q = 125#8 :: r') : pobj pv (f + 1) l acc ns = .ok (.mk 6#8 0#64 [] (acc ++ [x]) (ns ++ [t])) r' := by
  rw [pobj, h]
  dsimp only
  rw [h2]
  dsimp only
  rw [hb]
  dsimp only
  rw [if_neg (by decide), if_pos rfl]
theorem pobj_no {pv : Bs → R JT} {f : Nat} {l r q : Bs} {acc : List JT} {ns : List Bs} {t : Bs} {x : JT} (h : pname l ns = .ok t r) (h2 : pv r = .ok x q) (h3 : ∀ r', blanks q ≠ 44#8 :: r') (h4 : ∀ r', blanks q ≠ 125#8 :: r') : pobj pv (f + 1) l acc ns = .bad 4 := by
  rw [pobj, h]
  dsimp only
  rw [h2]
  dsimp only
  cases hb : blanks q with
  | nil => rfl
  | cons c r' =>
    dsimp only
    rw [if_neg (fun hc => h3 r' (by rw [hb, hc])), if_neg (fun hc => h4 r' (by rw [hb, hc]))]
/-- The names' cells. -/
def nmL (ns : List Bs) : List SC := (ns.map U8).map SC.str
theorem nmL_raw (ns : List Bs) : ∀ x ∈ nmL ns, x.raw = x := fun x hx => by
  obtain ⟨b, _, rfl⟩ := List.mem_map.1 hx
  rfl
theorem nmL_len (ns : List Bs) : (nmL ns).length = ns.length := by simp [nmL]
theorem nmL_app (ns : List Bs) (t : Bs) : nmL (ns ++ [t]) = nmL ns ++ [.str (U8 t)] := by simp [nmL]
theorem nmL_newrow {t : Bs} (j : Nat) (hj : j < (nmL [t]).length) : newF (scale 1 (0 + 1)) (fun q => nthC [SC.str (U8 t)] (q + 0)) j = nthC (nmL [t]) j :=
  newJ_cs (new := nmL [t]) (m := 1) (sz := 0) rfl (fun _ _ => rfl) j hj
theorem nmL_approw {ns : List Bs} {t : Bs} {n : Nat} (hn : ns.length = n) (j : Nat) (hj : j < (nmL (ns ++ [t])).length) : appF (nthC (nmL ns)) 0 (scale n (0 + 1)) (scale 1 (0 + 1)) (fun q => nthC [SC.str (U8 t)] (q + 0)) j = nthC (nmL (ns ++ [t])) j := by
  rw [nmL_app] at hj ⊢
  exact appJ_cs (cs := nmL ns) (new := [SC.str (U8 t)]) (m := 1) (sz := 0) (by rw [nmL_len, hn]; omega) (fun _ _ => rfl) rfl (fun _ _ => rfl) j hj
set_option maxRecDepth 20000 in
set_option maxHeartbeats 32000000 in
theorem fn_object {W : World} {ms : List Nat} (hT : Tabs W ms) (d : Nat) (depth : Nat) (hd : depth ≤ 8) (s : Bs) (hs : s.length ≤ 1048576) (hv : ∀ (W : World) (ms : List Nat) (k : Nat), Tabs W ms → k ≤ s.length → FnR Tryd.prog tds 42 1 [[.past W ms], psr s k] [.c (.p 1 0 0), .c (.int .i64 ((depth + 1 : Nat) : Int))] (fun _ => True) (ValA W ms d s k (pval d (s.drop k))))
    (k : Nat) (hk : k < s.length) : FnR Tryd.prog tds 57 1 [[.past W ms], psr s k] [.c (.p 1 0 0), .c (.int .i64 (depth : Int))] (fun _ => True) (ValA W ms (d + 1) s k (objs (pval d) (s.drop (k + 1)))) := by
  refine fn_of_bodyW tds_ok follows_ Tryd.func57 rfl (t := .a (.c (.p 1 0 0)) :: .a (.c (.int .i64 (depth : Int))) :: anys (Tryd.f57.ntmps - 2)) rfl (fun w r0 hr0 _ => ?_)
  obtain ⟨x0, x1, rfl⟩ := len2' hr0
  (repeat first | (refine And.intro ?_ ?_; first | exact rfl | ((exact fun h => absurd h (by first | decide)); intro yy; clear yy) | (rotate_left; (exact fun h => absurd h (by first | decide)); intro yy; clear yy) | decide | omega) | (with_reducible refine frc_bytesL (by first | omega | decide) ?_) | (with_reducible refine frc_bytesM (by first | omega | decide) ?_))
  refine call_same (fn_blanks s (k + 1) (by omega) hs) [1] rfl (by (repeat first | exact trivial | refine ent1 ?_)) (by (repeat first | exact trivial | refine ent1 ?_)) (fun _ _ => trivial) ?_
  rintro x hs' ⟨k1, g1, g2, g3, rfl, rfl⟩
  (repeat first | (refine And.intro ?_ ?_; first | exact rfl | ((exact fun h => absurd h (by first | decide)); intro yy; clear yy) | (rotate_left; (exact fun h => absurd h (by first | decide)); intro yy; clear yy) | decide | omega) | (with_reducible refine frc_bytesL (by first | omega | decide) ?_) | (with_reducible refine frc_bytesM (by first | omega | decide) ?_))
  refine call_same (fn_peek s k1) [1] rfl (by (repeat first | exact trivial | refine ent1 ?_)) (by (repeat first | exact trivial | refine ent1 ?_)) (fun _ _ => trivial) ?_
  rintro x hs' ⟨rfl, rfl⟩
  by_cases c1 : L s k1 = 125#8
  · have e1 : decide (L s k1 = 125#8) = true := decide_eq_true c1
    obtain ⟨h1, h2⟩ := of_L c1 (by decide)
    have hP : objs (pval d) (s.drop (k + 1)) = .ok (.mk 6#8 0#64 [] [] []) (s.drop (k1 + 1)) := by
      unfold objs
      rw [← g3, h1]
      dsimp only
      rw [if_pos rfl]
    (repeat first | (refine And.intro ?_ ?_; first | exact rfl | ((exact fun h => absurd h (by first | decide | (rw [e1]; decide))); intro yy; clear yy) | (rotate_left; (exact fun h => absurd h (by first | decide | (rw [e1]; decide))); intro yy; clear yy) | decide | omega) | (with_reducible refine frc_bytesL (by first | omega | decide) ?_) | (with_reducible refine frc_bytesM (by first | omega | decide) ?_))
    exact FinW.of ⟨.tup [.agg (jvS (.mk 6#8 0#64 [] [] []) jc0), .c (.int .i64 0)], _, ⟨[0, 1], ⟨rfl, rfl, rfl⟩, by (repeat first | exact trivial | refine ent1 ?_)⟩, .inl ⟨_, jc0, k1 + 1, W, ms, hP, by omega, by omega, Later.refl _ _, TAt.leaf rfl rfl _, rfl, rfl⟩⟩
  have e1 : decide (L s k1 = 125#8) = false := decide_eq_false c1
  obtain ⟨f0, hf0, hP0⟩ : ∃ f, s.length - k1 < f ∧ objs (pval d) (s.drop (k + 1)) = pobj (pval d) f (s.drop k1) [] [] := by
    rcases drop_L (s := s) (k := k1) with ⟨h1, h2⟩ | ⟨h1, h2, _⟩
    · refine ⟨(s.drop k1).length + 1, by rw [List.length_drop]; omega, ?_⟩
      unfold objs
      rw [← g3, h2]
      dsimp only
      rw [if_neg c1]
    · refine ⟨1, by omega, ?_⟩
      unfold objs
      rw [← g3, h2]
  (repeat first | (refine And.intro ?_ ?_; first | exact rfl | ((exact fun h => absurd h (by first | decide | (rw [e1]; decide))); intro yy; clear yy) | (rotate_left; (exact fun h => absurd h (by first | decide | (rw [e1]; decide))); intro yy; clear yy) | decide | omega) | (with_reducible refine frc_bytesL (by first | omega | decide) ?_) | (with_reducible refine frc_bytesM (by first | omega | decide) ?_))
  refine .inl ⟨Option (List JT × List SC × List Bs × Nat × Nat) × Nat × World × List Nat, fun x => match x with
    | (none, j, W', ms') => ⟨[.a (.c (.p 1 0 0)), .a (.c (.int .i64 ((depth : Int)))), .any, .any, .a (.c (.p 2 0 0)), .a (.c (.int .i64 (0))), .a (.c (.p 3 0 0)), .a (.c (.mh 4)), .any, .any, .any, .any, .any, .any, .any, .any, .any, .any, .any, .any, .any, .any, .any, .any, .any, .any, .any, .any, .any, .any, .any, .any, .any, .any, .any, .any, .any, .any, .any, .any, .any, .any, .any, .any, .any, .any, .any, .any, .any, .any, .any, .any, .any, .any, .any, .any, .any, .any, .any, .any, .any, .any, .any, .any, .any, .any, .any, .any, .any, .any, .any, .any, .any, .any, .any, .any, .any, .any, .any, .any, .any, .any, .any, .any, .any, .any, .any, .any, .any, .any], [[.past W' ms'], psr s j, vz, vo0, hadC []]⟩
    | (some (done, cs, ns, c, e), j, W', ms') => ⟨[.a (.c (.p 1 0 0)), .a (.c (.int .i64 ((depth : Int)))), .any, .any, .a (.c (.p 2 0 0)), .a (.c (.int .i64 (0))), .a (.c (.p 3 0 0)), .a (.c (.mh 4)), .any, .any, .any, .any, .any, .any, .any, .any, .any, .any, .any, .any, .any, .any, .any, .any, .any, .any, .any, .any, .any, .any, .any, .any, .any, .any, .any, .any, .any, .any, .any, .any, .any, .any, .any, .any, .any, .any, .any, .any, .any, .any, .any, .any, .any, .any, .any, .any, .any, .any, .any, .any, .any, .any, .any, .any, .any, .any, .any, .any, .any, .any, .any, .any, .any, .any, .any, .any, .any, .any, .any, .any, .any, .any, .any, .any, .any, .any, .any, .any, .any, .any], [[.past W' ms'], psr s j, vz, vo1 6 done.length c 5 done.length e, hadC ns, [.row (scale e (0 + 1)) (nthC (nmL ns))], [.row (scale c (4 + 1)) (nthC cs)]]⟩,
    fun x => match x with
    | (none, j, W', ms') => k < j ∧ j ≤ s.length ∧ Later W ms W' ms' ∧ ∃ f, s.length - j < f ∧ objs (pval d) (s.drop (k + 1)) = pobj (pval d) f (s.drop j) [] []
    | (some (done, cs, ns, c, e), j, W', ms') => k < j ∧ j ≤ s.length ∧ Later W ms W' ms' ∧ done.length ≤ j ∧ done.length ≤ c ∧ done.length ≤ e ∧ ns.length = done.length ∧ RowJ W' ms' d cs done ∧ ∃ f, s.length - j < f ∧ objs (pval d) (s.drop (k + 1)) = pobj (pval d) f (s.drop j) done ns,
    fun x => s.length - x.2.1, ⟨(none, k1, W, ms), [0, 1, 2, 3, 4], ⟨⟨rfl, rfl, rfl⟩, by (repeat first | exact trivial | refine ent1 ?_)⟩, by omega, g2, Later.refl _ _, f0, hf0, hP0⟩, fun x hx => ?_⟩
  rcases x with ⟨_ | ⟨done, cs, ns, c, e⟩, j, W', ms'⟩
  · obtain ⟨q1, q2, hL, f, hf, hP⟩ := hx
    obtain ⟨f, rfl⟩ : ∃ f', f = f' + 1 := ⟨f - 1, by omega⟩
    dsimp only
    (repeat first | (refine And.intro ?_ ?_; first | exact rfl | ((exact fun h => absurd h (by first | decide)); intro yy; clear yy) | (rotate_left; (exact fun h => absurd h (by first | decide)); intro yy; clear yy) | decide | omega) | (with_reducible refine frc_bytesL (by first | omega | decide) ?_) | (with_reducible refine frc_bytesM (by first | omega | decide) ?_))
    refine call_same (fn_name (hT.later hL) s j [] q2 hs) [0, 1, 4] rfl (by (repeat first | exact trivial | refine ent1 ?_)) (by (repeat first | exact trivial | refine ent1 ?_)) (fun _ _ => trivial) ?_
    rintro y hs' (⟨t, k3, u1, u2, u3, rfl, rfl⟩ | ⟨e', k3, l', u1, u0, u2, u3, rfl, rfl⟩)
    rotate_left
    · have f1 : decide (e' ≠ 0) = true := decide_eq_true u0
      (repeat first | (refine And.intro ?_ ?_; first | exact rfl | ((exact fun h => absurd h (by first | decide | (rw [f1]; decide))); intro yy; clear yy) | (rotate_left; (exact fun h => absurd h (by first | decide | (rw [f1]; decide))); intro yy; clear yy) | decide | omega) | (with_reducible refine frc_bytesL (by first | omega | decide) ?_) | (with_reducible refine frc_bytesM (by first | omega | decide) ?_))
      exact FinW.of ⟨.tup [.agg (jvS jt0 jc0), .c (.int .i64 e')], _, ⟨[0, 1], ⟨rfl, rfl, rfl⟩, by (repeat first | exact trivial | refine ent1 ?_)⟩, .inr ⟨e', jt0, jc0, k3, W', ms', by rw [hP, pobj_name u1], u0, by omega, u3, hL, rfl, rfl⟩⟩
    (repeat first | (refine And.intro ?_ ?_; first | exact rfl | ((exact fun h => absurd h (by first | decide)); intro yy; clear yy) | (rotate_left; (exact fun h => absurd h (by first | decide)); intro yy; clear yy) | decide | omega) | (with_reducible refine frc_bytesL (by first | omega | decide) ?_) | (with_reducible refine frc_bytesM (by first | omega | decide) ?_))
    refine call_past (hv W' ms' k3 (hT.later hL) u3) 0 [1] rfl rfl (by (repeat first | exact trivial | refine ent1 ?_)) (by (repeat first | exact trivial | refine ent1 ?_)) (fun _ _ => trivial) (fun x hs hr => ?_) ?_
    · rcases hr with ⟨v, x, k', W5, ms5, _, _, _, hL5, _, _, rfl⟩ | ⟨e, v, x, k', W5, ms5, _, _, _, _, hL5, _, rfl⟩
      · exact ⟨W5, ms5, rfl, hL5⟩
      · exact ⟨W5, ms5, rfl, hL5⟩
    rintro y hs' (⟨v, x, k', W5, ms5, p1, p2, p3, hL5, hx5, rfl, rfl⟩ | ⟨e', v, x, k', W5, ms5, p1, p0, p2, p3, hL5, rfl, rfl⟩)
    rotate_left
    · have f1 : decide (e' ≠ 0) = true := decide_eq_true p0
      (repeat first | (refine And.intro ?_ ?_; first | exact rfl | ((exact fun h => absurd h (by first | decide | (rw [f1]; decide))); intro yy; clear yy) | (rotate_left; (exact fun h => absurd h (by first | decide | (rw [f1]; decide))); intro yy; clear yy) | decide | omega) | (with_reducible refine frc_bytesL (by first | omega | decide) ?_) | (with_reducible refine frc_bytesM (by first | omega | decide) ?_))
      exact FinW.of ⟨.tup [.agg (jvS jt0 jc0), .c (.int .i64 e')], _, ⟨[0, 1], ⟨rfl, rfl, rfl⟩, by (repeat first | exact trivial | refine ent1 ?_)⟩, .inr ⟨e', jt0, jc0, k', W5, ms5, by rw [hP, pobj_val u1 p1], p0, by omega, p3, hL.trans hL5, rfl, rfl⟩⟩
    have hrw : RowJ W5 ms5 d (flat (jvS v x)) [v] := RowJ.nil.snoc hx5
    (repeat first | (refine And.intro ?_ ?_; first | exact rfl | ((exact fun h => absurd h (by first | decide)); intro yy; clear yy) | (rotate_left; (exact fun h => absurd h (by first | decide)); intro yy; clear yy) | decide | omega) | (with_reducible refine frc_bytesL (by first | omega | decide) ?_) | (with_reducible refine frc_bytesM (by first | omega | decide) ?_))
    refine ⟨some [3, 5], [1001, 1000, 1001, 1002, 1005, 1006, 1007, 3, 3, 8, 3, 4, 8, 1010, 2008, 2009, 0, 2004, 1010, 2009, 0, 2003, 2004, 1010, 2009, 0], [(0, true), (1, true), (2, true), (3, false), (4, false), (5, true), (6, true), (7, true), (8, false), (9, false), (10, true)], [11, 12, 13], by kernel_rfl, ?_⟩
    (repeat first | (refine And.intro ?_ ?_; first | exact rfl | ((exact fun h => absurd h (by first | decide)); intro yy; clear yy) | (rotate_left; (exact fun h => absurd h (by first | decide)); intro yy; clear yy) | decide | omega) | (with_reducible refine frc_bytesL (by first | omega | decide) ?_) | (with_reducible refine frc_bytesM (by first | omega | decide) ?_))
    refine And.intro (And.intro ?_ ?_) ?_
    · (repeat first | (refine And.intro ?_ ?_; first | exact rfl | ((exact fun h => absurd h (by first | decide)); intro yy; clear yy) | (rotate_left; (exact fun h => absurd h (by first | decide)); intro yy; clear yy) | decide | omega) | (with_reducible refine frc_bytesL (by first | omega | decide) ?_) | (with_reducible refine frc_bytesM (by first | omega | decide) ?_))
      intro e2 he2
      refine And.intro rfl ?_
      refine And.intro (show 0 + 5 ≤ 5 by decide) ?_
      (repeat first | (refine And.intro ?_ ?_; first | exact rfl | ((exact fun h => absurd h (by first | decide)); intro yy; clear yy) | (rotate_left; (exact fun h => absurd h (by first | decide)); intro yy; clear yy) | decide | omega) | (with_reducible refine frc_bytesL (by first | omega | decide) ?_) | (with_reducible refine frc_bytesM (by first | omega | decide) ?_))
      intro c2 hc2
      (repeat first | (refine And.intro ?_ ?_; first | exact rfl | ((exact fun h => absurd h (by first | decide)); intro yy; clear yy) | (rotate_left; (exact fun h => absurd h (by first | decide)); intro yy; clear yy) | decide | omega) | (with_reducible refine frc_bytesL (by first | omega | decide) ?_) | (with_reducible refine frc_bytesM (by first | omega | decide) ?_))
      refine call_same (fn_blanks s k' p3 hs) [1] rfl (by (repeat first | exact trivial | refine ent1 ?_)) (by (repeat first | exact trivial | refine ent1 ?_)) (fun _ _ => trivial) ?_
      rintro y hs' ⟨k2, r1, r2, r3, rfl, rfl⟩
      (repeat first | (refine And.intro ?_ ?_; first | exact rfl | ((exact fun h => absurd h (by first | decide)); intro yy; clear yy) | (rotate_left; (exact fun h => absurd h (by first | decide)); intro yy; clear yy) | decide | omega) | (with_reducible refine frc_bytesL (by first | omega | decide) ?_) | (with_reducible refine frc_bytesM (by first | omega | decide) ?_))
      refine call_same (fn_peek s k2) [1] rfl (by (repeat first | exact trivial | refine ent1 ?_)) (by (repeat first | exact trivial | refine ent1 ?_)) (fun _ _ => trivial) ?_
      rintro y hs' ⟨rfl, rfl⟩
      by_cases c2' : L s k2 = 44#8
      · have f1 : decide (L s k2 = 44#8) = true := decide_eq_true c2'
        obtain ⟨h1, h2⟩ := of_L c2' (by decide)
        rw [pobj_next u1 p1 (by rw [← r3]; exact h1)] at hP
        (repeat first | (refine And.intro ?_ ?_; first | exact rfl | ((exact fun h => absurd h (by first | decide | (rw [f1]; decide))); intro yy; clear yy) | (rotate_left; (exact fun h => absurd h (by first | decide | (rw [f1]; decide))); intro yy; clear yy) | decide | omega) | (with_reducible refine frc_bytesL (by first | omega | decide) ?_) | (with_reducible refine frc_bytesM (by first | omega | decide) ?_))
        refine ⟨(some ([v], (flat (jvS v x)), [t], c2, e2), k2 + 1, W5, ms5), [0, 1, 2, 3, 4, 7, 9], ⟨⟨rfl, rfl, rfl⟩, ?_⟩, ⟨by omega, by omega, hL.trans hL5, by show 1 ≤ _; omega, by exact hc2, by exact he2, by rfl, hrw, f, by omega, hP⟩, by dsimp only; omega⟩
        (repeat first | exact trivial | refine ent1 ?_)
        refine And.intro (fun j hj => eqJ_cs (nmL_raw _) (fun j hj => nmL_newrow j hj) j) ?_
        (repeat first | exact trivial | refine ent1 ?_)
        exact ⟨fun j hj => eqJ_cs hrw.raw (newJ_cs (m := 1) (sz := 4) rfl fun j hj => updJ_new hj) j, by (repeat first | exact trivial | refine ent1 ?_)⟩
      have f1 : decide (L s k2 = 44#8) = false := decide_eq_false c2'
      by_cases c3 : L s k2 = 125#8
      · have f2 : decide (L s k2 = 125#8) = true := decide_eq_true c3
        obtain ⟨h1, h2⟩ := of_L c3 (by decide)
        rw [pobj_end u1 p1 (by rw [← r3]; exact h1)] at hP
        (repeat first | (refine And.intro ?_ ?_; first | exact rfl | ((exact fun h => absurd h (by first | decide | (rw [f1]; decide) | (rw [f2]; decide))); intro yy; clear yy) | (rotate_left; (exact fun h => absurd h (by first | decide | (rw [f1]; decide) | (rw [f2]; decide))); intro yy; clear yy) | decide | omega) | (with_reducible refine frc_bytesL (by first | omega | decide) ?_) | (with_reducible refine frc_bytesM (by first | omega | decide) ?_))
        refine finW_frzU [0, 1] rfl (Nat.zero_lt_one) cx0_m rfl (fun W9 ms9 α hL9 hI => ?_)
        have hfz := hrw.frz (F := fun j => !memB j [0, 1]) hL9 (newJ_cs (m := 1) (sz := 4) rfl fun j hj => updJ_new hj) (hI 9 rfl) marks_off (n := 1) rfl hc2 (by omega)
        have hfn := strs_frz (l := [t].map U8) (F := fun j => !memB j [0, 1]) (fun j hj => nmL_newrow j hj) (fun h => (hI 7 rfl h).1) (n := 1) (by rw [List.length_map]; rfl) he2 (by omega)
        refine ⟨.tup [.agg (jvS (.mk 6#8 0#64 [] ([v]) ([t])) ⟨some ((α 9).add (0 + 0)), 1, c2, some ((α 7).add (0 + 0)), 1, e2⟩), .c (.int .i64 0)], [psr s (k2 + 1)], ⟨⟨rfl, rfl, rfl⟩, by (repeat first | exact trivial | refine ent1 ?_)⟩, .inl ⟨_, ⟨some ((α 9).add (0 + 0)), 1, c2, some ((α 7).add (0 + 0)), 1, e2⟩, k2 + 1, W9, ms9, hP, by omega, by omega, hL.trans (hL5.trans hL9), ⟨hfz, hfn⟩, rfl, rfl⟩⟩
      have f2 : decide (L s k2 = 125#8) = false := decide_eq_false c3
      (repeat first | (refine And.intro ?_ ?_; first | exact rfl | ((exact fun h => absurd h (by first | decide | (rw [f1]; decide) | (rw [f2]; decide))); intro yy; clear yy) | (rotate_left; (exact fun h => absurd h (by first | decide | (rw [f1]; decide) | (rw [f2]; decide))); intro yy; clear yy) | decide | omega) | (with_reducible refine frc_bytesL (by first | omega | decide) ?_) | (with_reducible refine frc_bytesM (by first | omega | decide) ?_))
      refine FinW.of ⟨.tup [.agg (jvS jt0 jc0), .c (.int .i64 4)], _, ⟨[0, 1], ⟨rfl, rfl, rfl⟩, by (repeat first | exact trivial | refine ent1 ?_)⟩, .inr ⟨4, jt0, jc0, k2, W5, ms5, ?_, by decide, by omega, r2, hL.trans hL5, rfl, rfl⟩⟩
      rw [hP, pobj_no u1 p1 (fun r' h => c2' (L_of (r3.trans h)).1) (fun r' h => c3 (L_of (r3.trans h)).1)]
    · refine And.intro rfl ?_
      refine And.intro (show 0 + 5 ≤ 5 by decide) ?_
      (repeat first | (refine And.intro ?_ ?_; first | exact rfl | ((exact fun h => absurd h (by first | decide)); intro yy; clear yy) | (rotate_left; (exact fun h => absurd h (by first | decide)); intro yy; clear yy) | decide | omega) | (with_reducible refine frc_bytesL (by first | omega | decide) ?_) | (with_reducible refine frc_bytesM (by first | omega | decide) ?_))
      intro e2 he2
      (repeat first | (refine And.intro ?_ ?_; first | exact rfl | ((exact fun h => absurd h (by first | decide)); intro yy; clear yy) | (rotate_left; (exact fun h => absurd h (by first | decide)); intro yy; clear yy) | decide | omega) | (with_reducible refine frc_bytesL (by first | omega | decide) ?_) | (with_reducible refine frc_bytesM (by first | omega | decide) ?_))
      intro c2 hc2
      (repeat first | (refine And.intro ?_ ?_; first | exact rfl | ((exact fun h => absurd h (by first | decide)); intro yy; clear yy) | (rotate_left; (exact fun h => absurd h (by first | decide)); intro yy; clear yy) | decide | omega) | (with_reducible refine frc_bytesL (by first | omega | decide) ?_) | (with_reducible refine frc_bytesM (by first | omega | decide) ?_))
      refine call_same (fn_blanks s k' p3 hs) [1] rfl (by (repeat first | exact trivial | refine ent1 ?_)) (by (repeat first | exact trivial | refine ent1 ?_)) (fun _ _ => trivial) ?_
      rintro y hs' ⟨k2, r1, r2, r3, rfl, rfl⟩
      (repeat first | (refine And.intro ?_ ?_; first | exact rfl | ((exact fun h => absurd h (by first | decide)); intro yy; clear yy) | (rotate_left; (exact fun h => absurd h (by first | decide)); intro yy; clear yy) | decide | omega) | (with_reducible refine frc_bytesL (by first | omega | decide) ?_) | (with_reducible refine frc_bytesM (by first | omega | decide) ?_))
      refine call_same (fn_peek s k2) [1] rfl (by (repeat first | exact trivial | refine ent1 ?_)) (by (repeat first | exact trivial | refine ent1 ?_)) (fun _ _ => trivial) ?_
      rintro y hs' ⟨rfl, rfl⟩
      by_cases c2' : L s k2 = 44#8
      · have f1 : decide (L s k2 = 44#8) = true := decide_eq_true c2'
        obtain ⟨h1, h2⟩ := of_L c2' (by decide)
        rw [pobj_next u1 p1 (by rw [← r3]; exact h1)] at hP
        (repeat first | (refine And.intro ?_ ?_; first | exact rfl | ((exact fun h => absurd h (by first | decide | (rw [f1]; decide))); intro yy; clear yy) | (rotate_left; (exact fun h => absurd h (by first | decide | (rw [f1]; decide))); intro yy; clear yy) | decide | omega) | (with_reducible refine frc_bytesL (by first | omega | decide) ?_) | (with_reducible refine frc_bytesM (by first | omega | decide) ?_))
        refine ⟨(some ([v], (flat (jvS v x)), [t], c2, e2), k2 + 1, W5, ms5), [0, 1, 2, 3, 4, 8, 9], ⟨⟨rfl, rfl, rfl⟩, ?_⟩, ⟨by omega, by omega, hL.trans hL5, by show 1 ≤ _; omega, by exact hc2, by exact he2, by rfl, hrw, f, by omega, hP⟩, by dsimp only; omega⟩
        (repeat first | exact trivial | refine ent1 ?_)
        refine And.intro (fun j hj => eqJ_cs (nmL_raw _) (fun j hj => nmL_newrow j hj) j) ?_
        (repeat first | exact trivial | refine ent1 ?_)
        exact ⟨fun j hj => eqJ_cs hrw.raw (newJ_cs (m := 1) (sz := 4) rfl fun j hj => updJ_new hj) j, by (repeat first | exact trivial | refine ent1 ?_)⟩
      have f1 : decide (L s k2 = 44#8) = false := decide_eq_false c2'
      by_cases c3 : L s k2 = 125#8
      · have f2 : decide (L s k2 = 125#8) = true := decide_eq_true c3
        obtain ⟨h1, h2⟩ := of_L c3 (by decide)
        rw [pobj_end u1 p1 (by rw [← r3]; exact h1)] at hP
        (repeat first | (refine And.intro ?_ ?_; first | exact rfl | ((exact fun h => absurd h (by first | decide | (rw [f1]; decide) | (rw [f2]; decide))); intro yy; clear yy) | (rotate_left; (exact fun h => absurd h (by first | decide | (rw [f1]; decide) | (rw [f2]; decide))); intro yy; clear yy) | decide | omega) | (with_reducible refine frc_bytesL (by first | omega | decide) ?_) | (with_reducible refine frc_bytesM (by first | omega | decide) ?_))
        refine finW_frzU [0, 1] rfl (Nat.zero_lt_one) cx0_m rfl (fun W9 ms9 α hL9 hI => ?_)
        have hfz := hrw.frz (F := fun j => !memB j [0, 1]) hL9 (newJ_cs (m := 1) (sz := 4) rfl fun j hj => updJ_new hj) (hI 9 rfl) marks_off (n := 1) rfl hc2 (by omega)
        have hfn := strs_frz (l := [t].map U8) (F := fun j => !memB j [0, 1]) (fun j hj => nmL_newrow j hj) (fun h => (hI 8 rfl h).1) (n := 1) (by rw [List.length_map]; rfl) he2 (by omega)
        refine ⟨.tup [.agg (jvS (.mk 6#8 0#64 [] ([v]) ([t])) ⟨some ((α 9).add (0 + 0)), 1, c2, some ((α 8).add (0 + 0)), 1, e2⟩), .c (.int .i64 0)], [psr s (k2 + 1)], ⟨⟨rfl, rfl, rfl⟩, by (repeat first | exact trivial | refine ent1 ?_)⟩, .inl ⟨_, ⟨some ((α 9).add (0 + 0)), 1, c2, some ((α 8).add (0 + 0)), 1, e2⟩, k2 + 1, W9, ms9, hP, by omega, by omega, hL.trans (hL5.trans hL9), ⟨hfz, hfn⟩, rfl, rfl⟩⟩
      have f2 : decide (L s k2 = 125#8) = false := decide_eq_false c3
      (repeat first | (refine And.intro ?_ ?_; first | exact rfl | ((exact fun h => absurd h (by first | decide | (rw [f1]; decide) | (rw [f2]; decide))); intro yy; clear yy) | (rotate_left; (exact fun h => absurd h (by first | decide | (rw [f1]; decide) | (rw [f2]; decide))); intro yy; clear yy) | decide | omega) | (with_reducible refine frc_bytesL (by first | omega | decide) ?_) | (with_reducible refine frc_bytesM (by first | omega | decide) ?_))
      refine FinW.of ⟨.tup [.agg (jvS jt0 jc0), .c (.int .i64 4)], _, ⟨[0, 1], ⟨rfl, rfl, rfl⟩, by (repeat first | exact trivial | refine ent1 ?_)⟩, .inr ⟨4, jt0, jc0, k2, W5, ms5, ?_, by decide, by omega, r2, hL.trans hL5, rfl, rfl⟩⟩
      rw [hP, pobj_no u1 p1 (fun r' h => c2' (L_of (r3.trans h)).1) (fun r' h => c3 (L_of (r3.trans h)).1)]
    · refine And.intro rfl ?_
      refine And.intro (show 0 + 5 ≤ 5 by decide) ?_
      (repeat first | (refine And.intro ?_ ?_; first | exact rfl | ((exact fun h => absurd h (by first | decide)); intro yy; clear yy) | (rotate_left; (exact fun h => absurd h (by first | decide)); intro yy; clear yy) | decide | omega) | (with_reducible refine frc_bytesL (by first | omega | decide) ?_) | (with_reducible refine frc_bytesM (by first | omega | decide) ?_))
      intro e2 he2
      (repeat first | (refine And.intro ?_ ?_; first | exact rfl | ((exact fun h => absurd h (by first | decide)); intro yy; clear yy) | (rotate_left; (exact fun h => absurd h (by first | decide)); intro yy; clear yy) | decide | omega) | (with_reducible refine frc_bytesL (by first | omega | decide) ?_) | (with_reducible refine frc_bytesM (by first | omega | decide) ?_))
      intro c2 hc2
      (repeat first | (refine And.intro ?_ ?_; first | exact rfl | ((exact fun h => absurd h (by first | decide)); intro yy; clear yy) | (rotate_left; (exact fun h => absurd h (by first | decide)); intro yy; clear yy) | decide | omega) | (with_reducible refine frc_bytesL (by first | omega | decide) ?_) | (with_reducible refine frc_bytesM (by first | omega | decide) ?_))
      refine call_same (fn_blanks s k' p3 hs) [1] rfl (by (repeat first | exact trivial | refine ent1 ?_)) (by (repeat first | exact trivial | refine ent1 ?_)) (fun _ _ => trivial) ?_
      rintro y hs' ⟨k2, r1, r2, r3, rfl, rfl⟩
      (repeat first | (refine And.intro ?_ ?_; first | exact rfl | ((exact fun h => absurd h (by first | decide)); intro yy; clear yy) | (rotate_left; (exact fun h => absurd h (by first | decide)); intro yy; clear yy) | decide | omega) | (with_reducible refine frc_bytesL (by first | omega | decide) ?_) | (with_reducible refine frc_bytesM (by first | omega | decide) ?_))
      refine call_same (fn_peek s k2) [1] rfl (by (repeat first | exact trivial | refine ent1 ?_)) (by (repeat first | exact trivial | refine ent1 ?_)) (fun _ _ => trivial) ?_
      rintro y hs' ⟨rfl, rfl⟩
      by_cases c2' : L s k2 = 44#8
      · have f1 : decide (L s k2 = 44#8) = true := decide_eq_true c2'
        obtain ⟨h1, h2⟩ := of_L c2' (by decide)
        rw [pobj_next u1 p1 (by rw [← r3]; exact h1)] at hP
        (repeat first | (refine And.intro ?_ ?_; first | exact rfl | ((exact fun h => absurd h (by first | decide | (rw [f1]; decide))); intro yy; clear yy) | (rotate_left; (exact fun h => absurd h (by first | decide | (rw [f1]; decide))); intro yy; clear yy) | decide | omega) | (with_reducible refine frc_bytesL (by first | omega | decide) ?_) | (with_reducible refine frc_bytesM (by first | omega | decide) ?_))
        refine ⟨(some ([v], (flat (jvS v x)), [t], c2, e2), k2 + 1, W5, ms5), [0, 1, 2, 3, 4, 8, 9], ⟨⟨rfl, rfl, rfl⟩, ?_⟩, ⟨by omega, by omega, hL.trans hL5, by show 1 ≤ _; omega, by exact hc2, by exact he2, by rfl, hrw, f, by omega, hP⟩, by dsimp only; omega⟩
        (repeat first | exact trivial | refine ent1 ?_)
        refine And.intro (fun j hj => eqJ_cs (nmL_raw _) (fun j hj => nmL_newrow j hj) j) ?_
        (repeat first | exact trivial | refine ent1 ?_)
        exact ⟨fun j hj => eqJ_cs hrw.raw (newJ_cs (m := 1) (sz := 4) rfl fun j hj => updJ_new hj) j, by (repeat first | exact trivial | refine ent1 ?_)⟩
      have f1 : decide (L s k2 = 44#8) = false := decide_eq_false c2'
      by_cases c3 : L s k2 = 125#8
      · have f2 : decide (L s k2 = 125#8) = true := decide_eq_true c3
        obtain ⟨h1, h2⟩ := of_L c3 (by decide)
        rw [pobj_end u1 p1 (by rw [← r3]; exact h1)] at hP
        (repeat first | (refine And.intro ?_ ?_; first | exact rfl | ((exact fun h => absurd h (by first | decide | (rw [f1]; decide) | (rw [f2]; decide))); intro yy; clear yy) | (rotate_left; (exact fun h => absurd h (by first | decide | (rw [f1]; decide) | (rw [f2]; decide))); intro yy; clear yy) | decide | omega) | (with_reducible refine frc_bytesL (by first | omega | decide) ?_) | (with_reducible refine frc_bytesM (by first | omega | decide) ?_))
        refine finW_frzU [0, 1] rfl (Nat.zero_lt_one) cx0_m rfl (fun W9 ms9 α hL9 hI => ?_)
        have hfz := hrw.frz (F := fun j => !memB j [0, 1]) hL9 (newJ_cs (m := 1) (sz := 4) rfl fun j hj => updJ_new hj) (hI 9 rfl) marks_off (n := 1) rfl hc2 (by omega)
        have hfn := strs_frz (l := [t].map U8) (F := fun j => !memB j [0, 1]) (fun j hj => nmL_newrow j hj) (fun h => (hI 8 rfl h).1) (n := 1) (by rw [List.length_map]; rfl) he2 (by omega)
        refine ⟨.tup [.agg (jvS (.mk 6#8 0#64 [] ([v]) ([t])) ⟨some ((α 9).add (0 + 0)), 1, c2, some ((α 8).add (0 + 0)), 1, e2⟩), .c (.int .i64 0)], [psr s (k2 + 1)], ⟨⟨rfl, rfl, rfl⟩, by (repeat first | exact trivial | refine ent1 ?_)⟩, .inl ⟨_, ⟨some ((α 9).add (0 + 0)), 1, c2, some ((α 8).add (0 + 0)), 1, e2⟩, k2 + 1, W9, ms9, hP, by omega, by omega, hL.trans (hL5.trans hL9), ⟨hfz, hfn⟩, rfl, rfl⟩⟩
      have f2 : decide (L s k2 = 125#8) = false := decide_eq_false c3
      (repeat first | (refine And.intro ?_ ?_; first | exact rfl | ((exact fun h => absurd h (by first | decide | (rw [f1]; decide) | (rw [f2]; decide))); intro yy; clear yy) | (rotate_left; (exact fun h => absurd h (by first | decide | (rw [f1]; decide) | (rw [f2]; decide))); intro yy; clear yy) | decide | omega) | (with_reducible refine frc_bytesL (by first | omega | decide) ?_) | (with_reducible refine frc_bytesM (by first | omega | decide) ?_))
      refine FinW.of ⟨.tup [.agg (jvS jt0 jc0), .c (.int .i64 4)], _, ⟨[0, 1], ⟨rfl, rfl, rfl⟩, by (repeat first | exact trivial | refine ent1 ?_)⟩, .inr ⟨4, jt0, jc0, k2, W5, ms5, ?_, by decide, by omega, r2, hL.trans hL5, rfl, rfl⟩⟩
      rw [hP, pobj_no u1 p1 (fun r' h => c2' (L_of (r3.trans h)).1) (fun r' h => c3 (L_of (r3.trans h)).1)]
  · obtain ⟨q1, q2, hL, q3, q4, q5, q6, hrow, f, hf, hP⟩ := hx
    have hlen := hrow.len
    obtain ⟨f, rfl⟩ : ∃ f', f = f' + 1 := ⟨f - 1, by omega⟩
    dsimp only
    (repeat first | (refine And.intro ?_ ?_; first | exact rfl | ((exact fun h => absurd h (by first | decide)); intro yy; clear yy) | (rotate_left; (exact fun h => absurd h (by first | decide)); intro yy; clear yy) | decide | omega) | (with_reducible refine frc_bytesL (by first | omega | decide) ?_) | (with_reducible refine frc_bytesM (by first | omega | decide) ?_))
    refine call_same (fn_name (hT.later hL) s j ns q2 hs) [0, 1, 4] rfl (by (repeat first | exact trivial | refine ent1 ?_)) (by (repeat first | exact trivial | refine ent1 ?_)) (fun _ _ => trivial) ?_
    rintro y hs' (⟨t, k3, u1, u2, u3, rfl, rfl⟩ | ⟨e', k3, l', u1, u0, u2, u3, rfl, rfl⟩)
    rotate_left
    · have f1 : decide (e' ≠ 0) = true := decide_eq_true u0
      (repeat first | (refine And.intro ?_ ?_; first | exact rfl | ((exact fun h => absurd h (by first | decide | (rw [f1]; decide))); intro yy; clear yy) | (rotate_left; (exact fun h => absurd h (by first | decide | (rw [f1]; decide))); intro yy; clear yy) | decide | omega) | (with_reducible refine frc_bytesL (by first | omega | decide) ?_) | (with_reducible refine frc_bytesM (by first | omega | decide) ?_))
      exact FinW.of ⟨.tup [.agg (jvS jt0 jc0), .c (.int .i64 e')], _, ⟨[0, 1], ⟨rfl, rfl, rfl⟩, by (repeat first | exact trivial | refine ent1 ?_)⟩, .inr ⟨e', jt0, jc0, k3, W', ms', by rw [hP, pobj_name u1], u0, by omega, u3, hL, rfl, rfl⟩⟩
    (repeat first | (refine And.intro ?_ ?_; first | exact rfl | ((exact fun h => absurd h (by first | decide)); intro yy; clear yy) | (rotate_left; (exact fun h => absurd h (by first | decide)); intro yy; clear yy) | decide | omega) | (with_reducible refine frc_bytesL (by first | omega | decide) ?_) | (with_reducible refine frc_bytesM (by first | omega | decide) ?_))
    refine call_past (hv W' ms' k3 (hT.later hL) u3) 0 [1] rfl rfl (by (repeat first | exact trivial | refine ent1 ?_)) (by (repeat first | exact trivial | refine ent1 ?_)) (fun _ _ => trivial) (fun x hs hr => ?_) ?_
    · rcases hr with ⟨v, x, k', W5, ms5, _, _, _, hL5, _, _, rfl⟩ | ⟨e, v, x, k', W5, ms5, _, _, _, _, hL5, _, rfl⟩
      · exact ⟨W5, ms5, rfl, hL5⟩
      · exact ⟨W5, ms5, rfl, hL5⟩
    rintro y hs' (⟨v, x, k', W5, ms5, p1, p2, p3, hL5, hx5, rfl, rfl⟩ | ⟨e', v, x, k', W5, ms5, p1, p0, p2, p3, hL5, rfl, rfl⟩)
    rotate_left
    · have f1 : decide (e' ≠ 0) = true := decide_eq_true p0
      (repeat first | (refine And.intro ?_ ?_; first | exact rfl | ((exact fun h => absurd h (by first | decide | (rw [f1]; decide))); intro yy; clear yy) | (rotate_left; (exact fun h => absurd h (by first | decide | (rw [f1]; decide))); intro yy; clear yy) | decide | omega) | (with_reducible refine frc_bytesL (by first | omega | decide) ?_) | (with_reducible refine frc_bytesM (by first | omega | decide) ?_))
      exact FinW.of ⟨.tup [.agg (jvS jt0 jc0), .c (.int .i64 e')], _, ⟨[0, 1], ⟨rfl, rfl, rfl⟩, by (repeat first | exact trivial | refine ent1 ?_)⟩, .inr ⟨e', jt0, jc0, k', W5, ms5, by rw [hP, pobj_val u1 p1], p0, by omega, p3, hL.trans hL5, rfl, rfl⟩⟩
    have hrw : RowJ W5 ms5 d (cs ++ flat (jvS v x)) (done ++ [v]) := (hrow.later hL5).snoc hx5
    have hdl : (done ++ [v]).length = done.length + 1 := by rw [List.length_append]; rfl
    have hnl : (ns ++ [t]).length = done.length + 1 := by rw [List.length_append, q6]; rfl
    (repeat first | (refine And.intro ?_ ?_; first | exact rfl | ((exact fun h => absurd h (by first | decide)); intro yy; clear yy) | (rotate_left; (exact fun h => absurd h (by first | decide)); intro yy; clear yy) | decide | omega) | (with_reducible refine frc_bytesL (by first | omega | decide) ?_) | (with_reducible refine frc_bytesM (by first | omega | decide) ?_))
    refine ⟨some [3, 7], [1001, 1000, 1001, 1002, 1005, 1006, 1007, 3, 3, 8, 3, 4, 8, 1010, 2008, 2009, 0, 2004, 1010, 2009, 0, 2003, 2004, 1010, 2009, 0], [(0, true), (1, true), (2, true), (3, false), (4, false), (5, true), (6, true), (7, true), (8, false), (9, false), (10, true)], [11, 12, 13], by kernel_rfl, ?_⟩
    (repeat first | (refine And.intro ?_ ?_; first | exact rfl | ((exact fun h => absurd h (by first | decide)); intro yy; clear yy) | (rotate_left; (exact fun h => absurd h (by first | decide)); intro yy; clear yy) | decide | omega) | (with_reducible refine frc_bytesL (by first | omega | decide) ?_) | (with_reducible refine frc_bytesM (by first | omega | decide) ?_))
    refine And.intro (And.intro ?_ ?_) ?_
    · refine And.intro (show 0 + scale 1 (0 + 1) ≤ 1 by decide) ?_
      refine And.intro ⟨q5, by rw [sc1]; omega, show (done.length + 1) * 16 ≤ 140737488355328 by omega⟩ ?_
      intro e2 he2
      refine And.intro rfl ?_
      refine And.intro (show 0 + 5 ≤ 5 by decide) ?_
      refine And.intro (show 0 + scale 1 (4 + 1) ≤ 5 by decide) ?_
      refine And.intro ⟨q4, by rw [sc5]; omega, show (done.length + 1) * 80 ≤ 140737488355328 by omega⟩ ?_
      intro c2 hc2
      (repeat first | (refine And.intro ?_ ?_; first | exact rfl | ((exact fun h => absurd h (by first | decide)); intro yy; clear yy) | (rotate_left; (exact fun h => absurd h (by first | decide)); intro yy; clear yy) | decide | omega) | (with_reducible refine frc_bytesL (by first | omega | decide) ?_) | (with_reducible refine frc_bytesM (by first | omega | decide) ?_))
      refine call_same (fn_blanks s k' p3 hs) [1] rfl (by (repeat first | exact trivial | refine ent1 ?_)) (by (repeat first | exact trivial | refine ent1 ?_)) (fun _ _ => trivial) ?_
      rintro y hs' ⟨k2, r1, r2, r3, rfl, rfl⟩
      (repeat first | (refine And.intro ?_ ?_; first | exact rfl | ((exact fun h => absurd h (by first | decide)); intro yy; clear yy) | (rotate_left; (exact fun h => absurd h (by first | decide)); intro yy; clear yy) | decide | omega) | (with_reducible refine frc_bytesL (by first | omega | decide) ?_) | (with_reducible refine frc_bytesM (by first | omega | decide) ?_))
      refine call_same (fn_peek s k2) [1] rfl (by (repeat first | exact trivial | refine ent1 ?_)) (by (repeat first | exact trivial | refine ent1 ?_)) (fun _ _ => trivial) ?_
      rintro y hs' ⟨rfl, rfl⟩
      by_cases c2' : L s k2 = 44#8
      · have f1 : decide (L s k2 = 44#8) = true := decide_eq_true c2'
        obtain ⟨h1, h2⟩ := of_L c2' (by decide)
        rw [pobj_next u1 p1 (by rw [← r3]; exact h1)] at hP
        (repeat first | (refine And.intro ?_ ?_; first | exact rfl | ((exact fun h => absurd h (by first | decide | (rw [f1]; decide))); intro yy; clear yy) | (rotate_left; (exact fun h => absurd h (by first | decide | (rw [f1]; decide))); intro yy; clear yy) | decide | omega) | (with_reducible refine frc_bytesL (by first | omega | decide) ?_) | (with_reducible refine frc_bytesM (by first | omega | decide) ?_))
        refine ⟨(some ((done ++ [v]), (cs ++ flat (jvS v x)), (ns ++ [t]), c2, e2), k2 + 1, W5, ms5), [0, 1, 2, 3, 4, 9, 11], ⟨⟨rfl, rfl, rfl⟩, ?_⟩, ⟨by omega, by omega, hL.trans hL5, by rw [hdl]; omega, by rw [hdl]; exact hc2, by rw [hdl]; exact he2, by rw [hdl]; exact hnl, hrw, f, by omega, hP⟩, by dsimp only; omega⟩
        (repeat first | exact trivial | refine ent1 ?_)
        refine And.intro (fun j hj => eqJ_cs (nmL_raw _) (fun j hj => nmL_approw q6 j hj) j) ?_
        (repeat first | exact trivial | refine ent1 ?_)
        exact ⟨fun j hj => eqJ_cs hrw.raw (appJ_cs (m := 1) (sz := 4) (by rw [hlen]) (fun _ _ => rfl) rfl fun j hj => updJ_new hj) j, by (repeat first | exact trivial | refine ent1 ?_)⟩
      have f1 : decide (L s k2 = 44#8) = false := decide_eq_false c2'
      by_cases c3 : L s k2 = 125#8
      · have f2 : decide (L s k2 = 125#8) = true := decide_eq_true c3
        obtain ⟨h1, h2⟩ := of_L c3 (by decide)
        rw [pobj_end u1 p1 (by rw [← r3]; exact h1)] at hP
        (repeat first | (refine And.intro ?_ ?_; first | exact rfl | ((exact fun h => absurd h (by first | decide | (rw [f1]; decide) | (rw [f2]; decide))); intro yy; clear yy) | (rotate_left; (exact fun h => absurd h (by first | decide | (rw [f1]; decide) | (rw [f2]; decide))); intro yy; clear yy) | decide | omega) | (with_reducible refine frc_bytesL (by first | omega | decide) ?_) | (with_reducible refine frc_bytesM (by first | omega | decide) ?_))
        refine finW_frzU [0, 1] rfl (Nat.zero_lt_one) cx0_m rfl (fun W9 ms9 α hL9 hI => ?_)
        have hfz := hrw.frz (F := fun j => !memB j [0, 1]) hL9 (appJ_cs (m := 1) (sz := 4) (by rw [hlen]) (fun _ _ => rfl) rfl fun j hj => updJ_new hj) (hI 11 rfl) marks_off (n := (done.length + 1)) hdl hc2 (by omega)
        have hfn := strs_frz (l := (ns ++ [t]).map U8) (F := fun j => !memB j [0, 1]) (fun j hj => nmL_approw q6 j hj) (fun h => (hI 9 rfl h).1) (n := (done.length + 1)) (by rw [List.length_map]; exact hnl) he2 (by omega)
        refine ⟨.tup [.agg (jvS (.mk 6#8 0#64 [] (done ++ [v]) (ns ++ [t])) ⟨some ((α 11).add (0 + 0)), (done.length + 1), c2, some ((α 9).add (0 + 0)), (done.length + 1), e2⟩), .c (.int .i64 0)], [psr s (k2 + 1)], ⟨⟨rfl, rfl, rfl⟩, by (repeat first | exact trivial | refine ent1 ?_)⟩, .inl ⟨_, ⟨some ((α 11).add (0 + 0)), (done.length + 1), c2, some ((α 9).add (0 + 0)), (done.length + 1), e2⟩, k2 + 1, W9, ms9, hP, by omega, by omega, hL.trans (hL5.trans hL9), ⟨hfz, hfn⟩, rfl, rfl⟩⟩
      have f2 : decide (L s k2 = 125#8) = false := decide_eq_false c3
      (repeat first | (refine And.intro ?_ ?_; first | exact rfl | ((exact fun h => absurd h (by first | decide | (rw [f1]; decide) | (rw [f2]; decide))); intro yy; clear yy) | (rotate_left; (exact fun h => absurd h (by first | decide | (rw [f1]; decide) | (rw [f2]; decide))); intro yy; clear yy) | decide | omega) | (with_reducible refine frc_bytesL (by first | omega | decide) ?_) | (with_reducible refine frc_bytesM (by first | omega | decide) ?_))
      refine FinW.of ⟨.tup [.agg (jvS jt0 jc0), .c (.int .i64 4)], _, ⟨[0, 1], ⟨rfl, rfl, rfl⟩, by (repeat first | exact trivial | refine ent1 ?_)⟩, .inr ⟨4, jt0, jc0, k2, W5, ms5, ?_, by decide, by omega, r2, hL.trans hL5, rfl, rfl⟩⟩
      rw [hP, pobj_no u1 p1 (fun r' h => c2' (L_of (r3.trans h)).1) (fun r' h => c3 (L_of (r3.trans h)).1)]
    · refine And.intro rfl ?_
      refine And.intro (show 0 + 5 ≤ 5 by decide) ?_
      refine And.intro (show 0 + scale 1 (0 + 1) ≤ 1 by decide) ?_
      refine And.intro ⟨q5, by rw [sc1]; omega, show (done.length + 1) * 16 ≤ 140737488355328 by omega⟩ ?_
      intro e2 he2
      refine And.intro (show 0 + scale 1 (4 + 1) ≤ 5 by decide) ?_
      refine And.intro ⟨q4, by rw [sc5]; omega, show (done.length + 1) * 80 ≤ 140737488355328 by omega⟩ ?_
      intro c2 hc2
      (repeat first | (refine And.intro ?_ ?_; first | exact rfl | ((exact fun h => absurd h (by first | decide)); intro yy; clear yy) | (rotate_left; (exact fun h => absurd h (by first | decide)); intro yy; clear yy) | decide | omega) | (with_reducible refine frc_bytesL (by first | omega | decide) ?_) | (with_reducible refine frc_bytesM (by first | omega | decide) ?_))
      refine call_same (fn_blanks s k' p3 hs) [1] rfl (by (repeat first | exact trivial | refine ent1 ?_)) (by (repeat first | exact trivial | refine ent1 ?_)) (fun _ _ => trivial) ?_
      rintro y hs' ⟨k2, r1, r2, r3, rfl, rfl⟩
      (repeat first | (refine And.intro ?_ ?_; first | exact rfl | ((exact fun h => absurd h (by first | decide)); intro yy; clear yy) | (rotate_left; (exact fun h => absurd h (by first | decide)); intro yy; clear yy) | decide | omega) | (with_reducible refine frc_bytesL (by first | omega | decide) ?_) | (with_reducible refine frc_bytesM (by first | omega | decide) ?_))
      refine call_same (fn_peek s k2) [1] rfl (by (repeat first | exact trivial | refine ent1 ?_)) (by (repeat first | exact trivial | refine ent1 ?_)) (fun _ _ => trivial) ?_
      rintro y hs' ⟨rfl, rfl⟩
      by_cases c2' : L s k2 = 44#8
      · have f1 : decide (L s k2 = 44#8) = true := decide_eq_true c2'
        obtain ⟨h1, h2⟩ := of_L c2' (by decide)
        rw [pobj_next u1 p1 (by rw [← r3]; exact h1)] at hP
        (repeat first | (refine And.intro ?_ ?_; first | exact rfl | ((exact fun h => absurd h (by first | decide | (rw [f1]; decide))); intro yy; clear yy) | (rotate_left; (exact fun h => absurd h (by first | decide | (rw [f1]; decide))); intro yy; clear yy) | decide | omega) | (with_reducible refine frc_bytesL (by first | omega | decide) ?_) | (with_reducible refine frc_bytesM (by first | omega | decide) ?_))
        refine ⟨(some ((done ++ [v]), (cs ++ flat (jvS v x)), (ns ++ [t]), c2, e2), k2 + 1, W5, ms5), [0, 1, 2, 3, 4, 10, 11], ⟨⟨rfl, rfl, rfl⟩, ?_⟩, ⟨by omega, by omega, hL.trans hL5, by rw [hdl]; omega, by rw [hdl]; exact hc2, by rw [hdl]; exact he2, by rw [hdl]; exact hnl, hrw, f, by omega, hP⟩, by dsimp only; omega⟩
        (repeat first | exact trivial | refine ent1 ?_)
        refine And.intro (fun j hj => eqJ_cs (nmL_raw _) (fun j hj => nmL_approw q6 j hj) j) ?_
        (repeat first | exact trivial | refine ent1 ?_)
        exact ⟨fun j hj => eqJ_cs hrw.raw (appJ_cs (m := 1) (sz := 4) (by rw [hlen]) (fun _ _ => rfl) rfl fun j hj => updJ_new hj) j, by (repeat first | exact trivial | refine ent1 ?_)⟩
      have f1 : decide (L s k2 = 44#8) = false := decide_eq_false c2'
      by_cases c3 : L s k2 = 125#8
      · have f2 : decide (L s k2 = 125#8) = true := decide_eq_true c3
        obtain ⟨h1, h2⟩ := of_L c3 (by decide)
        rw [pobj_end u1 p1 (by rw [← r3]; exact h1)] at hP
        (repeat first | (refine And.intro ?_ ?_; first | exact rfl | ((exact fun h => absurd h (by first | decide | (rw [f1]; decide) | (rw [f2]; decide))); intro yy; clear yy) | (rotate_left; (exact fun h => absurd h (by first | decide | (rw [f1]; decide) | (rw [f2]; decide))); intro yy; clear yy) | decide | omega) | (with_reducible refine frc_bytesL (by first | omega | decide) ?_) | (with_reducible refine frc_bytesM (by first | omega | decide) ?_))
        refine finW_frzU [0, 1] rfl (Nat.zero_lt_one) cx0_m rfl (fun W9 ms9 α hL9 hI => ?_)
        have hfz := hrw.frz (F := fun j => !memB j [0, 1]) hL9 (appJ_cs (m := 1) (sz := 4) (by rw [hlen]) (fun _ _ => rfl) rfl fun j hj => updJ_new hj) (hI 11 rfl) marks_off (n := (done.length + 1)) hdl hc2 (by omega)
        have hfn := strs_frz (l := (ns ++ [t]).map U8) (F := fun j => !memB j [0, 1]) (fun j hj => nmL_approw q6 j hj) (fun h => (hI 10 rfl h).1) (n := (done.length + 1)) (by rw [List.length_map]; exact hnl) he2 (by omega)
        refine ⟨.tup [.agg (jvS (.mk 6#8 0#64 [] (done ++ [v]) (ns ++ [t])) ⟨some ((α 11).add (0 + 0)), (done.length + 1), c2, some ((α 10).add (0 + 0)), (done.length + 1), e2⟩), .c (.int .i64 0)], [psr s (k2 + 1)], ⟨⟨rfl, rfl, rfl⟩, by (repeat first | exact trivial | refine ent1 ?_)⟩, .inl ⟨_, ⟨some ((α 11).add (0 + 0)), (done.length + 1), c2, some ((α 10).add (0 + 0)), (done.length + 1), e2⟩, k2 + 1, W9, ms9, hP, by omega, by omega, hL.trans (hL5.trans hL9), ⟨hfz, hfn⟩, rfl, rfl⟩⟩
      have f2 : decide (L s k2 = 125#8) = false := decide_eq_false c3
      (repeat first | (refine And.intro ?_ ?_; first | exact rfl | ((exact fun h => absurd h (by first | decide | (rw [f1]; decide) | (rw [f2]; decide))); intro yy; clear yy) | (rotate_left; (exact fun h => absurd h (by first | decide | (rw [f1]; decide) | (rw [f2]; decide))); intro yy; clear yy) | decide | omega) | (with_reducible refine frc_bytesL (by first | omega | decide) ?_) | (with_reducible refine frc_bytesM (by first | omega | decide) ?_))
      refine FinW.of ⟨.tup [.agg (jvS jt0 jc0), .c (.int .i64 4)], _, ⟨[0, 1], ⟨rfl, rfl, rfl⟩, by (repeat first | exact trivial | refine ent1 ?_)⟩, .inr ⟨4, jt0, jc0, k2, W5, ms5, ?_, by decide, by omega, r2, hL.trans hL5, rfl, rfl⟩⟩
      rw [hP, pobj_no u1 p1 (fun r' h => c2' (L_of (r3.trans h)).1) (fun r' h => c3 (L_of (r3.trans h)).1)]
    · refine And.intro rfl ?_
      refine And.intro (show 0 + 5 ≤ 5 by decide) ?_
      refine And.intro (show 0 + scale 1 (0 + 1) ≤ 1 by decide) ?_
      refine And.intro ⟨q5, by rw [sc1]; omega, show (done.length + 1) * 16 ≤ 140737488355328 by omega⟩ ?_
      intro e2 he2
      refine And.intro (show 0 + scale 1 (4 + 1) ≤ 5 by decide) ?_
      refine And.intro ⟨q4, by rw [sc5]; omega, show (done.length + 1) * 80 ≤ 140737488355328 by omega⟩ ?_
      intro c2 hc2
      (repeat first | (refine And.intro ?_ ?_; first | exact rfl | ((exact fun h => absurd h (by first | decide)); intro yy; clear yy) | (rotate_left; (exact fun h => absurd h (by first | decide)); intro yy; clear yy) | decide | omega) | (with_reducible refine frc_bytesL (by first | omega | decide) ?_) | (with_reducible refine frc_bytesM (by first | omega | decide) ?_))
      refine call_same (fn_blanks s k' p3 hs) [1] rfl (by (repeat first | exact trivial | refine ent1 ?_)) (by (repeat first | exact trivial | refine ent1 ?_)) (fun _ _ => trivial) ?_
      rintro y hs' ⟨k2, r1, r2, r3, rfl, rfl⟩
      (repeat first | (refine And.intro ?_ ?_; first | exact rfl | ((exact fun h => absurd h (by first | decide)); intro yy; clear yy) | (rotate_left; (exact fun h => absurd h (by first | decide)); intro yy; clear yy) | decide | omega) | (with_reducible refine frc_bytesL (by first | omega | decide) ?_) | (with_reducible refine frc_bytesM (by first | omega | decide) ?_))
      refine call_same (fn_peek s k2) [1] rfl (by (repeat first | exact trivial | refine ent1 ?_)) (by (repeat first | exact trivial | refine ent1 ?_)) (fun _ _ => trivial) ?_
      rintro y hs' ⟨rfl, rfl⟩
      by_cases c2' : L s k2 = 44#8
      · have f1 : decide (L s k2 = 44#8) = true := decide_eq_true c2'
        obtain ⟨h1, h2⟩ := of_L c2' (by decide)
        rw [pobj_next u1 p1 (by rw [← r3]; exact h1)] at hP
        (repeat first | (refine And.intro ?_ ?_; first | exact rfl | ((exact fun h => absurd h (by first | decide | (rw [f1]; decide))); intro yy; clear yy) | (rotate_left; (exact fun h => absurd h (by first | decide | (rw [f1]; decide))); intro yy; clear yy) | decide | omega) | (with_reducible refine frc_bytesL (by first | omega | decide) ?_) | (with_reducible refine frc_bytesM (by first | omega | decide) ?_))
        refine ⟨(some ((done ++ [v]), (cs ++ flat (jvS v x)), (ns ++ [t]), c2, e2), k2 + 1, W5, ms5), [0, 1, 2, 3, 4, 10, 11], ⟨⟨rfl, rfl, rfl⟩, ?_⟩, ⟨by omega, by omega, hL.trans hL5, by rw [hdl]; omega, by rw [hdl]; exact hc2, by rw [hdl]; exact he2, by rw [hdl]; exact hnl, hrw, f, by omega, hP⟩, by dsimp only; omega⟩
        (repeat first | exact trivial | refine ent1 ?_)
        refine And.intro (fun j hj => eqJ_cs (nmL_raw _) (fun j hj => nmL_approw q6 j hj) j) ?_
        (repeat first | exact trivial | refine ent1 ?_)
        exact ⟨fun j hj => eqJ_cs hrw.raw (appJ_cs (m := 1) (sz := 4) (by rw [hlen]) (fun _ _ => rfl) rfl fun j hj => updJ_new hj) j, by (repeat first | exact trivial | refine ent1 ?_)⟩
      have f1 : decide (L s k2 = 44#8) = false := decide_eq_false c2'
      by_cases c3 : L s k2 = 125#8
      · have f2 : decide (L s k2 = 125#8) = true := decide_eq_true c3
        obtain ⟨h1, h2⟩ := of_L c3 (by decide)
        rw [pobj_end u1 p1 (by rw [← r3]; exact h1)] at hP
        (repeat first | (refine And.intro ?_ ?_; first | exact rfl | ((exact fun h => absurd h (by first | decide | (rw [f1]; decide) | (rw [f2]; decide))); intro yy; clear yy) | (rotate_left; (exact fun h => absurd h (by first | decide | (rw [f1]; decide) | (rw [f2]; decide))); intro yy; clear yy) | decide | omega) | (with_reducible refine frc_bytesL (by first | omega | decide) ?_) | (with_reducible refine frc_bytesM (by first | omega | decide) ?_))
        refine finW_frzU [0, 1] rfl (Nat.zero_lt_one) cx0_m rfl (fun W9 ms9 α hL9 hI => ?_)
        have hfz := hrw.frz (F := fun j => !memB j [0, 1]) hL9 (appJ_cs (m := 1) (sz := 4) (by rw [hlen]) (fun _ _ => rfl) rfl fun j hj => updJ_new hj) (hI 11 rfl) marks_off (n := (done.length + 1)) hdl hc2 (by omega)
        have hfn := strs_frz (l := (ns ++ [t]).map U8) (F := fun j => !memB j [0, 1]) (fun j hj => nmL_approw q6 j hj) (fun h => (hI 10 rfl h).1) (n := (done.length + 1)) (by rw [List.length_map]; exact hnl) he2 (by omega)
        refine ⟨.tup [.agg (jvS (.mk 6#8 0#64 [] (done ++ [v]) (ns ++ [t])) ⟨some ((α 11).add (0 + 0)), (done.length + 1), c2, some ((α 10).add (0 + 0)), (done.length + 1), e2⟩), .c (.int .i64 0)], [psr s (k2 + 1)], ⟨⟨rfl, rfl, rfl⟩, by (repeat first | exact trivial | refine ent1 ?_)⟩, .inl ⟨_, ⟨some ((α 11).add (0 + 0)), (done.length + 1), c2, some ((α 10).add (0 + 0)), (done.length + 1), e2⟩, k2 + 1, W9, ms9, hP, by omega, by omega, hL.trans (hL5.trans hL9), ⟨hfz, hfn⟩, rfl, rfl⟩⟩
      have f2 : decide (L s k2 = 125#8) = false := decide_eq_false c3
      (repeat first | (refine And.intro ?_ ?_; first | exact rfl | ((exact fun h => absurd h (by first | decide | (rw [f1]; decide) | (rw [f2]; decide))); intro yy; clear yy) | (rotate_left; (exact fun h => absurd h (by first | decide | (rw [f1]; decide) | (rw [f2]; decide))); intro yy; clear yy) | decide | omega) | (with_reducible refine frc_bytesL (by first | omega | decide) ?_) | (with_reducible refine frc_bytesM (by first | omega | decide) ?_))
      refine FinW.of ⟨.tup [.agg (jvS jt0 jc0), .c (.int .i64 4)], _, ⟨[0, 1], ⟨rfl, rfl, rfl⟩, by (repeat first | exact trivial | refine ent1 ?_)⟩, .inr ⟨4, jt0, jc0, k2, W5, ms5, ?_, by decide, by omega, r2, hL.trans hL5, rfl, rfl⟩⟩
      rw [hP, pobj_no u1 p1 (fun r' h => c2' (L_of (r3.trans h)).1) (fun r' h => c3 (L_of (r3.trans h)).1)]
end Sx
end Go.Proofs.YtnehmcpkeamghaaDoor
end

section
/-
  The reader of texts: a value; Parse. No condition.
-/
namespace Go.Proofs.YtnehmcpkeamghaaDoor
set_option linter.unusedVariables false
namespace Sx
open Go.RowKit Sha Vi Js

theorem take_lt {a p : Bs} (h : a.length < p.length) : a.take p.length ≠ p := fun e => by
  have := congrArg List.length e
  rw [List.length_take] at this
  omega
set_option maxRecDepth 20000 in
theorem fn_slPrefix (a p : Bs) (ha : a.length ≤ 1048576) (hp : p.length ≤ 1048576) : Fn Tryd.prog tds 73 [] [.c (.str (U8 a)), .c (.str (U8 p))] (fun _ => True) (fun y hs => y = .a (.c (.bool (decide (a.take p.length = p)))) ∧ hs = []) := by
  refine fn_of_body tds_ok follows_ Tryd.func73 rfl (t := .a (.c (.str (U8 a))) :: .a (.c (.str (U8 p))) :: anys (Tryd.f73.ntmps - 2)) rfl (fun w r0 hr0 _ => ?_)
  obtain rfl : r0 = [] := List.eq_nil_of_length_eq_zero hr0
  by_cases h : p.length ≤ a.length
  · have e : decide ((((U8 p).length : Nat) : Int) ≤ (((U8 a).length : Nat) : Int)) = true := decide_eq_true (by rw [U8_len, U8_len]; omega)
    (repeat first | (refine And.intro ?_ ?_; first | exact rfl | ((exact fun h => absurd h (by first | decide | (rw [e]; decide))); intro yy; clear yy) | (rotate_left; (exact fun h => absurd h (by first | decide | (rw [e]; decide))); intro yy; clear yy) | decide | omega) | (with_reducible refine frc_bytesL (by first | omega | decide) ?_) | (with_reducible refine frc_bytesM (by first | omega | decide) ?_))
    refine And.intro ⟨by omega, by omega, by rw [U8_len, U8_len]; omega⟩ ?_
    refine frcN_of (m := 0) rfl ?_
    refine frcN_of (m := (U8 p).length) (Int.toNat_natCast _) ?_
    (repeat first | (refine And.intro ?_ ?_; first | exact rfl | ((exact fun h => absurd h (by first | decide | (rw [e]; decide))); intro yy; clear yy) | (rotate_left; (exact fun h => absurd h (by first | decide | (rw [e]; decide))); intro yy; clear yy) | decide | omega) | (with_reducible refine frc_bytesL (by first | omega | decide) ?_) | (with_reducible refine frc_bytesM (by first | omega | decide) ?_))
    have hd : decide (((U8 a).drop 0).take ((U8 p).length - 0) = U8 p) = decide (a.take p.length = p) := by
      rw [List.drop_zero, Nat.sub_zero, U8_len, U8_take, U8_dj]
    refine ⟨.a (.c (.bool (decide (a.take p.length = p)))), _, ⟨[], ⟨rfl, rfl, rfl⟩, ?_⟩, rfl, rfl⟩
    exact And.intro hd (by (repeat first | exact trivial | refine ent1 ?_))
  · have e : decide ((((U8 p).length : Nat) : Int) ≤ (((U8 a).length : Nat) : Int)) = false := decide_eq_false (by rw [U8_len, U8_len]; omega)
    (repeat first | (refine And.intro ?_ ?_; first | exact rfl | ((exact fun h => absurd h (by first | decide | (rw [e]; decide))); intro yy; clear yy) | (rotate_left; (exact fun h => absurd h (by first | decide | (rw [e]; decide))); intro yy; clear yy) | decide | omega) | (with_reducible refine frc_bytesL (by first | omega | decide) ?_) | (with_reducible refine frc_bytesM (by first | omega | decide) ?_))
    refine ⟨.a (.c (.bool (decide (a.take p.length = p)))), _, ⟨[], ⟨rfl, rfl, rfl⟩, ?_⟩, rfl, rfl⟩
    exact And.intro (decide_eq_false (take_lt (by omega))).symm (by (repeat first | exact trivial | refine ent1 ?_))
set_option maxRecDepth 20000 in
theorem fn_prefix (a p : Bs) (ha : a.length ≤ 1048576) (hp : p.length ≤ 1048576) : Fn Tryd.prog tds 58 [] [.c (.str (U8 a)), .c (.str (U8 p))] (fun _ => True) (fun y hs => y = .a (.c (.bool (decide (a.take p.length = p)))) ∧ hs = []) := by
  refine fn_of_body tds_ok follows_ Tryd.func58 rfl (t := .a (.c (.str (U8 a))) :: .a (.c (.str (U8 p))) :: anys (Tryd.f58.ntmps - 2)) rfl (fun w r0 hr0 _ => ?_)
  obtain rfl : r0 = [] := List.eq_nil_of_length_eq_zero hr0
  (repeat first | (refine And.intro ?_ ?_; first | exact rfl | ((exact fun h => absurd h (by first | decide)); intro yy; clear yy) | (rotate_left; (exact fun h => absurd h (by first | decide)); intro yy; clear yy) | decide | omega) | (with_reducible refine frc_bytesL (by first | omega | decide) ?_) | (with_reducible refine frc_bytesM (by first | omega | decide) ?_))
  refine call_same (fn_slPrefix a p ha hp) [] rfl (by (repeat first | exact trivial | refine ent1 ?_)) trivial (fun _ _ => trivial) ?_
  rintro x hs' ⟨rfl, rfl⟩
  exact ⟨.a (.c (.bool (decide (a.take p.length = p)))), _, ⟨[], ⟨rfl, rfl, rfl⟩, by (repeat first | exact trivial | refine ent1 ?_)⟩, rfl, rfl⟩
theorem pone_at {kl ko : Bs → R JT} {s : Bs} {k k1 : Nat} (h : s.drop k1 = blanks (s.drop k)) :
    pone kl ko (s.drop k) = if L s k1 = 34#8 then (match text (s.drop (k1 + 1)) with
        | .bad e => .bad e
        | .ok t r => .ok (.mk 4#8 0#64 t [] []) r)
      else if isDig (L s k1) = true then (match number (s.drop k1) with
        | .bad e => .bad e
        | .ok n r => .ok (.mk 3#8 (BitVec.ofNat 64 n) [] [] []) r)
      else if L s k1 = 91#8 then kl (s.drop (k1 + 1)) else if L s k1 = 123#8 then ko (s.drop (k1 + 1)) else word (s.drop k1) := by
  unfold pone
  rw [← h]
  rcases drop_L (s := s) (k := k1) with ⟨h1, h2⟩ | ⟨h1, h2, h3⟩
  · rw [h2]
    dsimp only
    split
    · cases text (s.drop (k1 + 1)) <;> rfl
    split
    · cases number (L s k1 :: s.drop (k1 + 1)) <;> rfl
    · rfl
  · rw [h2, h3]
    rfl
/-- What is told of a value that is read, so many levels down. -/
def ValC (s : Bs) (d depth : Nat) : Prop := ∀ (W : World) (ms : List Nat) (k : Nat), Tabs W ms → k ≤ s.length → FnR Tryd.prog tds 42 1 [[.past W ms], psr s k] [.c (.p 1 0 0), .c (.int .i64 (depth : Int))] (fun _ => True) (ValA W ms d s k (pval d (s.drop k)))
set_option maxRecDepth 20000 in
set_option maxHeartbeats 32000000 in
theorem fn_value1 (s : Bs) (hs : s.length ≤ 1048576) (d depth : Nat) (hdd : depth + d = 8) (hrec : ∀ d', d = d' + 1 → ValC s d' (depth + 1)) : ValC s d depth := by
  intro W ms k hT hk
  refine fn_of_bodyW tds_ok follows_ Tryd.func42 rfl (t := .a (.c (.p 1 0 0)) :: .a (.c (.int .i64 (depth : Int))) :: anys (Tryd.f42.ntmps - 2)) rfl (fun w r0 hr0 _ => ?_)
  obtain ⟨x0, x1, rfl⟩ := len2' hr0
  (repeat first | (refine And.intro ?_ ?_; first | exact rfl | ((exact fun h => absurd h (by first | decide)); intro yy; clear yy) | (rotate_left; (exact fun h => absurd h (by first | decide)); intro yy; clear yy) | decide | omega) | (with_reducible refine frc_bytesL (by first | omega | decide) ?_) | (with_reducible refine frc_bytesM (by first | omega | decide) ?_))
  refine call_same (fn_blanks s k hk hs) [1] rfl (by (repeat first | exact trivial | refine ent1 ?_)) (by (repeat first | exact trivial | refine ent1 ?_)) (fun _ _ => trivial) ?_
  rintro x hs' ⟨k1, g1, g2, g3, rfl, rfl⟩
  (repeat first | (refine And.intro ?_ ?_; first | exact rfl | ((exact fun h => absurd h (by first | decide)); intro yy; clear yy) | (rotate_left; (exact fun h => absurd h (by first | decide)); intro yy; clear yy) | decide | omega) | (with_reducible refine frc_bytesL (by first | omega | decide) ?_) | (with_reducible refine frc_bytesM (by first | omega | decide) ?_))
  refine call_same (fn_peek s k1) [1] rfl (by (repeat first | exact trivial | refine ent1 ?_)) (by (repeat first | exact trivial | refine ent1 ?_)) (fun _ _ => trivial) ?_
  rintro x hs' ⟨rfl, rfl⟩
  obtain ⟨kl, ko, hpv, hkl⟩ : ∃ kl ko, pval d = pone kl ko ∧ ((d = 0 ∧ depth = 8 ∧ kl = (fun _ => .bad 22) ∧ ko = (fun _ => .bad 22)) ∨ ∃ d', d = d' + 1 ∧ depth < 8 ∧ kl = lists (pval d') ∧ ko = objs (pval d')) := by
    cases d with
    | zero => exact ⟨_, _, rfl, .inl ⟨rfl, by omega, rfl, rfl⟩⟩
    | succ d => exact ⟨_, _, rfl, .inr ⟨d, rfl, by omega, rfl, rfl⟩⟩
  have hP := pone_at (kl := kl) (ko := ko) g3
  rw [← hpv] at hP
  by_cases c1 : L s k1 = 34#8
  · have e1 : decide (L s k1 = 34#8) = true := decide_eq_true c1
    obtain ⟨_, h2⟩ := of_L c1 (by decide)
    rw [if_pos c1] at hP
    (repeat first | (refine And.intro ?_ ?_; first | exact rfl | ((exact fun h => absurd h (by first | decide | (rw [e1]; decide))); intro yy; clear yy) | (rotate_left; (exact fun h => absurd h (by first | decide | (rw [e1]; decide))); intro yy; clear yy) | decide | omega) | (with_reducible refine frc_bytesL (by first | omega | decide) ?_) | (with_reducible refine frc_bytesM (by first | omega | decide) ?_))
    refine call_same (fn_text hT s k1 h2 hs) [0, 1] rfl (by (repeat first | exact trivial | refine ent1 ?_)) (by (repeat first | exact trivial | refine ent1 ?_)) (fun _ _ => trivial) ?_
    rintro x hs' (⟨t, k2, q1, q2, q3, rfl, rfl⟩ | ⟨e, k2, q1, q0, q2, q3, rfl, rfl⟩)
    · rw [q1] at hP
      (repeat first | (refine And.intro ?_ ?_; first | exact rfl | ((exact fun h => absurd h (by first | decide)); intro yy; clear yy) | (rotate_left; (exact fun h => absurd h (by first | decide)); intro yy; clear yy) | decide | omega) | (with_reducible refine frc_bytesL (by first | omega | decide) ?_) | (with_reducible refine frc_bytesM (by first | omega | decide) ?_))
      exact FinW.of ⟨.tup [.agg (jvS (.mk 4#8 0#64 t [] []) jc0), .c (.int .i64 0)], _, ⟨[0, 1], ⟨rfl, rfl, rfl⟩, by (repeat first | exact trivial | refine ent1 ?_)⟩, .inl ⟨_, jc0, k2, W, ms, hP, by omega, q3, Later.refl _ _, TAt.leaf rfl rfl _, rfl, rfl⟩⟩
    · rw [q1] at hP
      (repeat first | (refine And.intro ?_ ?_; first | exact rfl | ((exact fun h => absurd h (by first | decide)); intro yy; clear yy) | (rotate_left; (exact fun h => absurd h (by first | decide)); intro yy; clear yy) | decide | omega) | (with_reducible refine frc_bytesL (by first | omega | decide) ?_) | (with_reducible refine frc_bytesM (by first | omega | decide) ?_))
      exact FinW.of ⟨.tup [.agg (jvS (.mk 4#8 0#64 [] [] []) jc0), .c (.int .i64 e)], _, ⟨[0, 1], ⟨rfl, rfl, rfl⟩, by (repeat first | exact trivial | refine ent1 ?_)⟩, .inr ⟨e, _, jc0, k2, W, ms, hP, q0, by omega, q3, Later.refl _ _, rfl, rfl⟩⟩
  have e1 : decide (L s k1 = 34#8) = false := decide_eq_false c1
  rw [if_neg c1] at hP
  by_cases c2 : isDig (L s k1) = true
  · rw [if_pos c2] at hP
    have hD := (isDig_iff (L s k1)).symm.trans c2
    rw [Bool.and_eq_true] at hD
    obtain ⟨e2, e3⟩ := hD
    (repeat first | (refine And.intro ?_ ?_; first | exact rfl | ((exact fun h => absurd h (by first | decide | (rw [e1]; decide) | (rw [e2]; decide) | (rw [e3]; decide))); intro yy; clear yy) | (rotate_left; (exact fun h => absurd h (by first | decide | (rw [e1]; decide) | (rw [e2]; decide) | (rw [e3]; decide))); intro yy; clear yy) | decide | omega) | (with_reducible refine frc_bytesL (by first | omega | decide) ?_) | (with_reducible refine frc_bytesM (by first | omega | decide) ?_))
    refine call_same (fn_number' s k1 c2 hs) [1] rfl (by (repeat first | exact trivial | refine ent1 ?_)) (by (repeat first | exact trivial | refine ent1 ?_)) (fun _ _ => trivial) ?_
    rintro x hs' (⟨n, k2, q1, q2, q3, rfl, rfl⟩ | ⟨e, v, k2, q1, q0, q2, q3, rfl, rfl⟩)
    · rw [q1] at hP
      (repeat first | (refine And.intro ?_ ?_; first | exact rfl | ((exact fun h => absurd h (by first | decide)); intro yy; clear yy) | (rotate_left; (exact fun h => absurd h (by first | decide)); intro yy; clear yy) | decide | omega) | (with_reducible refine frc_bytesL (by first | omega | decide) ?_) | (with_reducible refine frc_bytesM (by first | omega | decide) ?_))
      exact FinW.of ⟨.tup [.agg (jvS (.mk 3#8 (BitVec.ofNat 64 n) [] [] []) jc0), .c (.int .i64 0)], _, ⟨[0, 1], ⟨rfl, rfl, rfl⟩, by (repeat first | exact trivial | refine ent1 ?_)⟩, .inl ⟨_, jc0, k2, W, ms, hP, by omega, q3, Later.refl _ _, TAt.leaf rfl rfl _, rfl, rfl⟩⟩
    · rw [q1] at hP
      (repeat first | (refine And.intro ?_ ?_; first | exact rfl | ((exact fun h => absurd h (by first | decide)); intro yy; clear yy) | (rotate_left; (exact fun h => absurd h (by first | decide)); intro yy; clear yy) | decide | omega) | (with_reducible refine frc_bytesL (by first | omega | decide) ?_) | (with_reducible refine frc_bytesM (by first | omega | decide) ?_))
      exact FinW.of ⟨.tup [.agg (jvS (.mk 3#8 v [] [] []) jc0), .c (.int .i64 e)], _, ⟨[0, 1], ⟨rfl, rfl, rfl⟩, by (repeat first | exact trivial | refine ent1 ?_)⟩, .inr ⟨e, _, jc0, k2, W, ms, hP, q0, by omega, q3, Later.refl _ _, rfl, rfl⟩⟩
  rw [if_neg c2] at hP
  rw [Bool.not_eq_true] at c2
  have hD := (isDig_iff (L s k1)).symm.trans c2
  by_cases c4 : L s k1 = 91#8
  · have fc4 : decide (L s k1 = 91#8) = true := decide_eq_true c4
    obtain ⟨_, h2⟩ := of_L c4 (by decide)
    rw [if_pos c4] at hP
    have e2 : decide (48#8 ≤ L s k1) = true := by rw [c4]; decide
    have e3 : decide (L s k1 ≤ 57#8) = false := by rw [c4]; decide
    rcases hkl with ⟨rfl, rfl, rfl, rfl⟩ | ⟨d', rfl, hlt, rfl, rfl⟩
    · (repeat first | (refine And.intro ?_ ?_; first | exact rfl | ((exact fun h => absurd h (by first | decide | (rw [e1]; decide) | (rw [e2]; decide) | (rw [e3]; decide) | (rw [fc4]; decide))); intro yy; clear yy) | (rotate_left; (exact fun h => absurd h (by first | decide | (rw [e1]; decide) | (rw [e2]; decide) | (rw [e3]; decide) | (rw [fc4]; decide))); intro yy; clear yy) | decide | omega) | (with_reducible refine frc_bytesL (by first | omega | decide) ?_) | (with_reducible refine frc_bytesM (by first | omega | decide) ?_))
      exact FinW.of ⟨.tup [.agg (jvS jt0 jc0), .c (.int .i64 22)], _, ⟨[0, 1], ⟨rfl, rfl, rfl⟩, by (repeat first | exact trivial | refine ent1 ?_)⟩, .inr ⟨22, jt0, jc0, k1, W, ms, hP, by decide, g1, g2, Later.refl _ _, rfl, rfl⟩⟩
    · have e8 : decide ((8 : Int) ≤ (depth : Int)) = false := decide_eq_false (by omega)
      (repeat first | (refine And.intro ?_ ?_; first | exact rfl | ((exact fun h => absurd h (by first | decide | (rw [e1]; decide) | (rw [e2]; decide) | (rw [e3]; decide) | (rw [fc4]; decide) | (rw [e8]; decide))); intro yy; clear yy) | (rotate_left; (exact fun h => absurd h (by first | decide | (rw [e1]; decide) | (rw [e2]; decide) | (rw [e3]; decide) | (rw [fc4]; decide) | (rw [e8]; decide))); intro yy; clear yy) | decide | omega) | (with_reducible refine frc_bytesL (by first | omega | decide) ?_) | (with_reducible refine frc_bytesM (by first | omega | decide) ?_))
      refine call_past (fn_list hT d' depth (by omega) s hs (hrec d' rfl) k1 h2) 0 [1] rfl rfl (by (repeat first | exact trivial | refine ent1 ?_)) (by (repeat first | exact trivial | refine ent1 ?_)) (fun _ _ => trivial) (fun x hs hr => ?_) ?_
      · rcases hr with ⟨v, x, k', W5, ms5, _, _, _, hL5, _, _, rfl⟩ | ⟨e, v, x, k', W5, ms5, _, _, _, _, hL5, _, rfl⟩
        · exact ⟨W5, ms5, rfl, hL5⟩
        · exact ⟨W5, ms5, rfl, hL5⟩
      rintro y hs' (⟨v, x, k', W5, ms5, p1, p2, p3, hL5, hx5, rfl, rfl⟩ | ⟨e, v, x, k', W5, ms5, p1, p0, p2, p3, hL5, rfl, rfl⟩)
      · (repeat first | (refine And.intro ?_ ?_; first | exact rfl | ((exact fun h => absurd h (by first | decide)); intro yy; clear yy) | (rotate_left; (exact fun h => absurd h (by first | decide)); intro yy; clear yy) | decide | omega) | (with_reducible refine frc_bytesL (by first | omega | decide) ?_) | (with_reducible refine frc_bytesM (by first | omega | decide) ?_))
        exact FinW.of ⟨.tup [.agg (jvS v x), .c (.int .i64 0)], _, ⟨[0, 1], ⟨rfl, rfl, rfl⟩, by (repeat first | exact trivial | refine ent1 ?_)⟩, .inl ⟨v, x, k', W5, ms5, hP.trans p1, by omega, p3, hL5, hx5, rfl, rfl⟩⟩
      · (repeat first | (refine And.intro ?_ ?_; first | exact rfl | ((exact fun h => absurd h (by first | decide)); intro yy; clear yy) | (rotate_left; (exact fun h => absurd h (by first | decide)); intro yy; clear yy) | decide | omega) | (with_reducible refine frc_bytesL (by first | omega | decide) ?_) | (with_reducible refine frc_bytesM (by first | omega | decide) ?_))
        exact FinW.of ⟨.tup [.agg (jvS v x), .c (.int .i64 e)], _, ⟨[0, 1], ⟨rfl, rfl, rfl⟩, by (repeat first | exact trivial | refine ent1 ?_)⟩, .inr ⟨e, v, x, k', W5, ms5, hP.trans p1, p0, by omega, p3, hL5, rfl, rfl⟩⟩
  have fc4 : decide (L s k1 = 91#8) = false := decide_eq_false c4
  by_cases c5 : L s k1 = 123#8
  · have fc5 : decide (L s k1 = 123#8) = true := decide_eq_true c5
    obtain ⟨_, h2⟩ := of_L c5 (by decide)
    rw [if_neg c4, if_pos c5] at hP
    have e2 : decide (48#8 ≤ L s k1) = true := by rw [c5]; decide
    have e3 : decide (L s k1 ≤ 57#8) = false := by rw [c5]; decide
    rcases hkl with ⟨rfl, rfl, rfl, rfl⟩ | ⟨d', rfl, hlt, rfl, rfl⟩
    · (repeat first | (refine And.intro ?_ ?_; first | exact rfl | ((exact fun h => absurd h (by first | decide | (rw [e1]; decide) | (rw [e2]; decide) | (rw [e3]; decide) | (rw [fc4]; decide) | (rw [fc5]; decide))); intro yy; clear yy) | (rotate_left; (exact fun h => absurd h (by first | decide | (rw [e1]; decide) | (rw [e2]; decide) | (rw [e3]; decide) | (rw [fc4]; decide) | (rw [fc5]; decide))); intro yy; clear yy) | decide | omega) | (with_reducible refine frc_bytesL (by first | omega | decide) ?_) | (with_reducible refine frc_bytesM (by first | omega | decide) ?_))
      exact FinW.of ⟨.tup [.agg (jvS jt0 jc0), .c (.int .i64 22)], _, ⟨[0, 1], ⟨rfl, rfl, rfl⟩, by (repeat first | exact trivial | refine ent1 ?_)⟩, .inr ⟨22, jt0, jc0, k1, W, ms, hP, by decide, g1, g2, Later.refl _ _, rfl, rfl⟩⟩
    · have e8 : decide ((8 : Int) ≤ (depth : Int)) = false := decide_eq_false (by omega)
      (repeat first | (refine And.intro ?_ ?_; first | exact rfl | ((exact fun h => absurd h (by first | decide | (rw [e1]; decide) | (rw [e2]; decide) | (rw [e3]; decide) | (rw [fc4]; decide) | (rw [fc5]; decide) | (rw [e8]; decide))); intro yy; clear yy) | (rotate_left; (exact fun h => absurd h (by first | decide | (rw [e1]; decide) | (rw [e2]; decide) | (rw [e3]; decide) | (rw [fc4]; decide) | (rw [fc5]; decide) | (rw [e8]; decide))); intro yy; clear yy) | decide | omega) | (with_reducible refine frc_bytesL (by first | omega | decide) ?_) | (with_reducible refine frc_bytesM (by first | omega | decide) ?_))
      refine call_past (fn_object hT d' depth (by omega) s hs (hrec d' rfl) k1 h2) 0 [1] rfl rfl (by (repeat first | exact trivial | refine ent1 ?_)) (by (repeat first | exact trivial | refine ent1 ?_)) (fun _ _ => trivial) (fun x hs hr => ?_) ?_
      · rcases hr with ⟨v, x, k', W5, ms5, _, _, _, hL5, _, _, rfl⟩ | ⟨e, v, x, k', W5, ms5, _, _, _, _, hL5, _, rfl⟩
        · exact ⟨W5, ms5, rfl, hL5⟩
        · exact ⟨W5, ms5, rfl, hL5⟩
      rintro y hs' (⟨v, x, k', W5, ms5, p1, p2, p3, hL5, hx5, rfl, rfl⟩ | ⟨e, v, x, k', W5, ms5, p1, p0, p2, p3, hL5, rfl, rfl⟩)
      · (repeat first | (refine And.intro ?_ ?_; first | exact rfl | ((exact fun h => absurd h (by first | decide)); intro yy; clear yy) | (rotate_left; (exact fun h => absurd h (by first | decide)); intro yy; clear yy) | decide | omega) | (with_reducible refine frc_bytesL (by first | omega | decide) ?_) | (with_reducible refine frc_bytesM (by first | omega | decide) ?_))
        exact FinW.of ⟨.tup [.agg (jvS v x), .c (.int .i64 0)], _, ⟨[0, 1], ⟨rfl, rfl, rfl⟩, by (repeat first | exact trivial | refine ent1 ?_)⟩, .inl ⟨v, x, k', W5, ms5, hP.trans p1, by omega, p3, hL5, hx5, rfl, rfl⟩⟩
      · (repeat first | (refine And.intro ?_ ?_; first | exact rfl | ((exact fun h => absurd h (by first | decide)); intro yy; clear yy) | (rotate_left; (exact fun h => absurd h (by first | decide)); intro yy; clear yy) | decide | omega) | (with_reducible refine frc_bytesL (by first | omega | decide) ?_) | (with_reducible refine frc_bytesM (by first | omega | decide) ?_))
        exact FinW.of ⟨.tup [.agg (jvS v x), .c (.int .i64 e)], _, ⟨[0, 1], ⟨rfl, rfl, rfl⟩, by (repeat first | exact trivial | refine ent1 ?_)⟩, .inr ⟨e, v, x, k', W5, ms5, hP.trans p1, p0, by omega, p3, hL5, rfl, rfl⟩⟩
  have fc5 : decide (L s k1 = 123#8) = false := decide_eq_false c5
  rw [if_neg c4, if_neg c5] at hP
  have hwl : (s.drop k1).length ≤ 1048576 := by rw [List.length_drop]; omega
  have hPw := hP
  unfold word at hPw
  rcases e2 : decide (48#8 ≤ L s k1) with _ | _
  · (repeat first | (refine And.intro ?_ ?_; first | exact rfl | ((exact fun h => absurd h (by first | decide | (rw [e1]; decide) | (rw [e2]; decide) | (rw [fc4]; decide) | (rw [fc5]; decide))); intro yy; clear yy) | (rotate_left; (exact fun h => absurd h (by first | decide | (rw [e1]; decide) | (rw [e2]; decide) | (rw [fc4]; decide) | (rw [fc5]; decide))); intro yy; clear yy) | decide | omega) | (with_reducible refine frc_bytesL (by first | omega | decide) ?_) | (with_reducible refine frc_bytesM (by first | omega | decide) ?_))
    refine .inr ⟨4, ?_⟩
    (repeat first | (refine And.intro ?_ ?_; first | exact rfl | ((exact fun h => absurd h (by first | decide)); intro yy; clear yy) | (rotate_left; (exact fun h => absurd h (by first | decide)); intro yy; clear yy) | decide | omega) | (with_reducible refine frc_bytesL (by first | omega | decide) ?_) | (with_reducible refine frc_bytesM (by first | omega | decide) ?_))
    refine ⟨none, [], [(0, true), (1, true), (2, true), (3, true), (4, true), (5, true), (6, true), (7, true), (8, true), (9, true), (10, false)], [], by kernel_rfl, ?_⟩
    (repeat first | (refine And.intro ?_ ?_; first | exact rfl | ((exact fun h => absurd h (by first | decide)); intro yy; clear yy) | (rotate_left; (exact fun h => absurd h (by first | decide)); intro yy; clear yy) | decide | omega) | (with_reducible refine frc_bytesL (by first | omega | decide) ?_) | (with_reducible refine frc_bytesM (by first | omega | decide) ?_))
    refine And.intro ⟨by omega, by rw [U8_len]; omega, by omega⟩ ?_
    refine frcN_of (m := k1) (Int.toNat_natCast k1) ?_
    refine frcN_of (m := (U8 s).length) (Int.toNat_natCast _) ?_
    (repeat first | (refine And.intro ?_ ?_; first | exact rfl | ((exact fun h => absurd h (by first | decide)); intro yy; clear yy) | (rotate_left; (exact fun h => absurd h (by first | decide)); intro yy; clear yy) | decide | omega) | (with_reducible refine frc_bytesL (by first | omega | decide) ?_) | (with_reducible refine frc_bytesM (by first | omega | decide) ?_))
    refine call_same (fn_prefix (s.drop k1) [110#8, 117#8, 108#8, 108#8] hwl (by decide)) [] rfl (by exact And.intro (U8_rest s k1) (And.intro rfl trivial)) trivial (fun _ _ => trivial) ?_
    rintro x hs' ⟨rfl, rfl⟩
    by_cases w0 : (s.drop k1).take 4 = [110#8, 117#8, 108#8, 108#8]
    · have h0 : decide ((s.drop k1).take ([110#8, 117#8, 108#8, 108#8] : Bs).length = [110#8, 117#8, 108#8, 108#8]) = true := decide_eq_true w0
      rw [if_pos w0] at hPw
      have hk9 : k1 + 4 ≤ s.length := by have := congrArg List.length w0; rw [List.length_take, List.length_drop] at this; simp only [List.length_cons, List.length_nil] at this; omega
      (repeat first | (refine And.intro ?_ ?_; first | exact rfl | ((exact fun h => absurd h (by first | decide | (rw [h0]; decide))); intro yy; clear yy) | (rotate_left; (exact fun h => absurd h (by first | decide | (rw [h0]; decide))); intro yy; clear yy) | decide | omega) | (with_reducible refine frc_bytesL (by first | omega | decide) ?_) | (with_reducible refine frc_bytesM (by first | omega | decide) ?_))
      refine And.intro (show -9223372036854775808 ≤ (k1 : Int) + ((4 : Nat) : Int) ∧ (k1 : Int) + ((4 : Nat) : Int) ≤ 9223372036854775807 by omega) ?_
      (repeat first | (refine And.intro ?_ ?_; first | exact rfl | ((exact fun h => absurd h (by first | decide)); intro yy; clear yy) | (rotate_left; (exact fun h => absurd h (by first | decide)); intro yy; clear yy) | decide | omega) | (with_reducible refine frc_bytesL (by first | omega | decide) ?_) | (with_reducible refine frc_bytesM (by first | omega | decide) ?_))
      exact FinW.of ⟨.tup [.agg (jvS (.mk 0#8 0#64 [] [] []) jc0), .c (.int .i64 0)], _, ⟨[0, 1], ⟨rfl, rfl, rfl⟩, by (repeat first | exact trivial | refine ent1 ?_)⟩, .inl ⟨_, jc0, k1 + 4, W, ms, by rw [hPw, List.drop_drop], by omega, hk9, Later.refl _ _, TAt.leaf rfl rfl _, rfl, rfl⟩⟩
    have h0 : decide ((s.drop k1).take ([110#8, 117#8, 108#8, 108#8] : Bs).length = [110#8, 117#8, 108#8, 108#8]) = false := decide_eq_false w0
    rw [if_neg w0] at hPw
    (repeat first | (refine And.intro ?_ ?_; first | exact rfl | ((exact fun h => absurd h (by first | decide | (rw [h0]; decide))); intro yy; clear yy) | (rotate_left; (exact fun h => absurd h (by first | decide | (rw [h0]; decide))); intro yy; clear yy) | decide | omega) | (with_reducible refine frc_bytesL (by first | omega | decide) ?_) | (with_reducible refine frc_bytesM (by first | omega | decide) ?_))
    (repeat first | (refine And.intro ?_ ?_; first | exact rfl | ((exact fun h => absurd h (by first | decide)); intro yy; clear yy) | (rotate_left; (exact fun h => absurd h (by first | decide)); intro yy; clear yy) | decide | omega) | (with_reducible refine frc_bytesL (by first | omega | decide) ?_) | (with_reducible refine frc_bytesM (by first | omega | decide) ?_))
    refine ⟨none, [], [(0, true), (1, true), (2, true), (3, true), (4, true), (5, true), (6, true), (7, true), (8, true), (9, true), (10, false)], [], by kernel_rfl, ?_⟩
    (repeat first | (refine And.intro ?_ ?_; first | exact rfl | ((exact fun h => absurd h (by first | decide)); intro yy; clear yy) | (rotate_left; (exact fun h => absurd h (by first | decide)); intro yy; clear yy) | decide | omega) | (with_reducible refine frc_bytesL (by first | omega | decide) ?_) | (with_reducible refine frc_bytesM (by first | omega | decide) ?_))
    refine And.intro ⟨by omega, by rw [U8_len]; omega, by omega⟩ ?_
    refine frcN_of (m := k1) (Int.toNat_natCast k1) ?_
    refine frcN_of (m := (U8 s).length) (Int.toNat_natCast _) ?_
    (repeat first | (refine And.intro ?_ ?_; first | exact rfl | ((exact fun h => absurd h (by first | decide)); intro yy; clear yy) | (rotate_left; (exact fun h => absurd h (by first | decide)); intro yy; clear yy) | decide | omega) | (with_reducible refine frc_bytesL (by first | omega | decide) ?_) | (with_reducible refine frc_bytesM (by first | omega | decide) ?_))
    refine call_same (fn_prefix (s.drop k1) [102#8, 97#8, 108#8, 115#8, 101#8] hwl (by decide)) [] rfl (by exact And.intro (U8_rest s k1) (And.intro rfl trivial)) trivial (fun _ _ => trivial) ?_
    rintro x hs' ⟨rfl, rfl⟩
    by_cases w1 : (s.drop k1).take 5 = [102#8, 97#8, 108#8, 115#8, 101#8]
    · have h1 : decide ((s.drop k1).take ([102#8, 97#8, 108#8, 115#8, 101#8] : Bs).length = [102#8, 97#8, 108#8, 115#8, 101#8]) = true := decide_eq_true w1
      rw [if_pos w1] at hPw
      have hk9 : k1 + 5 ≤ s.length := by have := congrArg List.length w1; rw [List.length_take, List.length_drop] at this; simp only [List.length_cons, List.length_nil] at this; omega
      (repeat first | (refine And.intro ?_ ?_; first | exact rfl | ((exact fun h => absurd h (by first | decide | (rw [h1]; decide))); intro yy; clear yy) | (rotate_left; (exact fun h => absurd h (by first | decide | (rw [h1]; decide))); intro yy; clear yy) | decide | omega) | (with_reducible refine frc_bytesL (by first | omega | decide) ?_) | (with_reducible refine frc_bytesM (by first | omega | decide) ?_))
      refine And.intro (show -9223372036854775808 ≤ (k1 : Int) + ((5 : Nat) : Int) ∧ (k1 : Int) + ((5 : Nat) : Int) ≤ 9223372036854775807 by omega) ?_
      (repeat first | (refine And.intro ?_ ?_; first | exact rfl | ((exact fun h => absurd h (by first | decide)); intro yy; clear yy) | (rotate_left; (exact fun h => absurd h (by first | decide)); intro yy; clear yy) | decide | omega) | (with_reducible refine frc_bytesL (by first | omega | decide) ?_) | (with_reducible refine frc_bytesM (by first | omega | decide) ?_))
      exact FinW.of ⟨.tup [.agg (jvS (.mk 1#8 0#64 [] [] []) jc0), .c (.int .i64 0)], _, ⟨[0, 1], ⟨rfl, rfl, rfl⟩, by (repeat first | exact trivial | refine ent1 ?_)⟩, .inl ⟨_, jc0, k1 + 5, W, ms, by rw [hPw, List.drop_drop], by omega, hk9, Later.refl _ _, TAt.leaf rfl rfl _, rfl, rfl⟩⟩
    have h1 : decide ((s.drop k1).take ([102#8, 97#8, 108#8, 115#8, 101#8] : Bs).length = [102#8, 97#8, 108#8, 115#8, 101#8]) = false := decide_eq_false w1
    rw [if_neg w1] at hPw
    (repeat first | (refine And.intro ?_ ?_; first | exact rfl | ((exact fun h => absurd h (by first | decide | (rw [h1]; decide))); intro yy; clear yy) | (rotate_left; (exact fun h => absurd h (by first | decide | (rw [h1]; decide))); intro yy; clear yy) | decide | omega) | (with_reducible refine frc_bytesL (by first | omega | decide) ?_) | (with_reducible refine frc_bytesM (by first | omega | decide) ?_))
    (repeat first | (refine And.intro ?_ ?_; first | exact rfl | ((exact fun h => absurd h (by first | decide)); intro yy; clear yy) | (rotate_left; (exact fun h => absurd h (by first | decide)); intro yy; clear yy) | decide | omega) | (with_reducible refine frc_bytesL (by first | omega | decide) ?_) | (with_reducible refine frc_bytesM (by first | omega | decide) ?_))
    refine ⟨none, [], [(0, true), (1, true), (2, true), (3, true), (4, true), (5, true), (6, true), (7, true), (8, true), (9, true), (10, false)], [], by kernel_rfl, ?_⟩
    (repeat first | (refine And.intro ?_ ?_; first | exact rfl | ((exact fun h => absurd h (by first | decide)); intro yy; clear yy) | (rotate_left; (exact fun h => absurd h (by first | decide)); intro yy; clear yy) | decide | omega) | (with_reducible refine frc_bytesL (by first | omega | decide) ?_) | (with_reducible refine frc_bytesM (by first | omega | decide) ?_))
    refine And.intro ⟨by omega, by rw [U8_len]; omega, by omega⟩ ?_
    refine frcN_of (m := k1) (Int.toNat_natCast k1) ?_
    refine frcN_of (m := (U8 s).length) (Int.toNat_natCast _) ?_
    (repeat first | (refine And.intro ?_ ?_; first | exact rfl | ((exact fun h => absurd h (by first | decide)); intro yy; clear yy) | (rotate_left; (exact fun h => absurd h (by first | decide)); intro yy; clear yy) | decide | omega) | (with_reducible refine frc_bytesL (by first | omega | decide) ?_) | (with_reducible refine frc_bytesM (by first | omega | decide) ?_))
    refine call_same (fn_prefix (s.drop k1) [116#8, 114#8, 117#8, 101#8] hwl (by decide)) [] rfl (by exact And.intro (U8_rest s k1) (And.intro rfl trivial)) trivial (fun _ _ => trivial) ?_
    rintro x hs' ⟨rfl, rfl⟩
    by_cases w2 : (s.drop k1).take 4 = [116#8, 114#8, 117#8, 101#8]
    · have h2 : decide ((s.drop k1).take ([116#8, 114#8, 117#8, 101#8] : Bs).length = [116#8, 114#8, 117#8, 101#8]) = true := decide_eq_true w2
      rw [if_pos w2] at hPw
      have hk9 : k1 + 4 ≤ s.length := by have := congrArg List.length w2; rw [List.length_take, List.length_drop] at this; simp only [List.length_cons, List.length_nil] at this; omega
      (repeat first | (refine And.intro ?_ ?_; first | exact rfl | ((exact fun h => absurd h (by first | decide | (rw [h2]; decide))); intro yy; clear yy) | (rotate_left; (exact fun h => absurd h (by first | decide | (rw [h2]; decide))); intro yy; clear yy) | decide | omega) | (with_reducible refine frc_bytesL (by first | omega | decide) ?_) | (with_reducible refine frc_bytesM (by first | omega | decide) ?_))
      refine And.intro (show -9223372036854775808 ≤ (k1 : Int) + ((4 : Nat) : Int) ∧ (k1 : Int) + ((4 : Nat) : Int) ≤ 9223372036854775807 by omega) ?_
      (repeat first | (refine And.intro ?_ ?_; first | exact rfl | ((exact fun h => absurd h (by first | decide)); intro yy; clear yy) | (rotate_left; (exact fun h => absurd h (by first | decide)); intro yy; clear yy) | decide | omega) | (with_reducible refine frc_bytesL (by first | omega | decide) ?_) | (with_reducible refine frc_bytesM (by first | omega | decide) ?_))
      exact FinW.of ⟨.tup [.agg (jvS (.mk 2#8 0#64 [] [] []) jc0), .c (.int .i64 0)], _, ⟨[0, 1], ⟨rfl, rfl, rfl⟩, by (repeat first | exact trivial | refine ent1 ?_)⟩, .inl ⟨_, jc0, k1 + 4, W, ms, by rw [hPw, List.drop_drop], by omega, hk9, Later.refl _ _, TAt.leaf rfl rfl _, rfl, rfl⟩⟩
    have h2 : decide ((s.drop k1).take ([116#8, 114#8, 117#8, 101#8] : Bs).length = [116#8, 114#8, 117#8, 101#8]) = false := decide_eq_false w2
    rw [if_neg w2] at hPw
    (repeat first | (refine And.intro ?_ ?_; first | exact rfl | ((exact fun h => absurd h (by first | decide | (rw [h2]; decide))); intro yy; clear yy) | (rotate_left; (exact fun h => absurd h (by first | decide | (rw [h2]; decide))); intro yy; clear yy) | decide | omega) | (with_reducible refine frc_bytesL (by first | omega | decide) ?_) | (with_reducible refine frc_bytesM (by first | omega | decide) ?_))
    exact FinW.of ⟨.tup [.agg (jvS jt0 jc0), .c (.int .i64 23)], _, ⟨[0, 1], ⟨rfl, rfl, rfl⟩, by (repeat first | exact trivial | refine ent1 ?_)⟩, .inr ⟨23, jt0, jc0, k1, W, ms, hPw, by decide, g1, g2, Later.refl _ _, rfl, rfl⟩⟩
  · rw [e2] at hD
    have e3 : decide (L s k1 ≤ 57#8) = false := hD
    (repeat first | (refine And.intro ?_ ?_; first | exact rfl | ((exact fun h => absurd h (by first | decide | (rw [e1]; decide) | (rw [e2]; decide) | (rw [e3]; decide) | (rw [fc4]; decide) | (rw [fc5]; decide))); intro yy; clear yy) | (rotate_left; (exact fun h => absurd h (by first | decide | (rw [e1]; decide) | (rw [e2]; decide) | (rw [e3]; decide) | (rw [fc4]; decide) | (rw [fc5]; decide))); intro yy; clear yy) | decide | omega) | (with_reducible refine frc_bytesL (by first | omega | decide) ?_) | (with_reducible refine frc_bytesM (by first | omega | decide) ?_))
    refine .inr ⟨4, ?_⟩
    (repeat first | (refine And.intro ?_ ?_; first | exact rfl | ((exact fun h => absurd h (by first | decide)); intro yy; clear yy) | (rotate_left; (exact fun h => absurd h (by first | decide)); intro yy; clear yy) | decide | omega) | (with_reducible refine frc_bytesL (by first | omega | decide) ?_) | (with_reducible refine frc_bytesM (by first | omega | decide) ?_))
    refine ⟨none, [], [(0, true), (1, true), (2, true), (3, true), (4, true), (5, true), (6, true), (7, true), (8, true), (9, true), (10, false)], [], by kernel_rfl, ?_⟩
    (repeat first | (refine And.intro ?_ ?_; first | exact rfl | ((exact fun h => absurd h (by first | decide)); intro yy; clear yy) | (rotate_left; (exact fun h => absurd h (by first | decide)); intro yy; clear yy) | decide | omega) | (with_reducible refine frc_bytesL (by first | omega | decide) ?_) | (with_reducible refine frc_bytesM (by first | omega | decide) ?_))
    refine And.intro ⟨by omega, by rw [U8_len]; omega, by omega⟩ ?_
    refine frcN_of (m := k1) (Int.toNat_natCast k1) ?_
    refine frcN_of (m := (U8 s).length) (Int.toNat_natCast _) ?_
    (repeat first | (refine And.intro ?_ ?_; first | exact rfl | ((exact fun h => absurd h (by first | decide)); intro yy; clear yy) | (rotate_left; (exact fun h => absurd h (by first | decide)); intro yy; clear yy) | decide | omega) | (with_reducible refine frc_bytesL (by first | omega | decide) ?_) | (with_reducible refine frc_bytesM (by first | omega | decide) ?_))
    refine call_same (fn_prefix (s.drop k1) [110#8, 117#8, 108#8, 108#8] hwl (by decide)) [] rfl (by exact And.intro (U8_rest s k1) (And.intro rfl trivial)) trivial (fun _ _ => trivial) ?_
    rintro x hs' ⟨rfl, rfl⟩
    by_cases w0 : (s.drop k1).take 4 = [110#8, 117#8, 108#8, 108#8]
    · have h0 : decide ((s.drop k1).take ([110#8, 117#8, 108#8, 108#8] : Bs).length = [110#8, 117#8, 108#8, 108#8]) = true := decide_eq_true w0
      rw [if_pos w0] at hPw
      have hk9 : k1 + 4 ≤ s.length := by have := congrArg List.length w0; rw [List.length_take, List.length_drop] at this; simp only [List.length_cons, List.length_nil] at this; omega
      (repeat first | (refine And.intro ?_ ?_; first | exact rfl | ((exact fun h => absurd h (by first | decide | (rw [h0]; decide))); intro yy; clear yy) | (rotate_left; (exact fun h => absurd h (by first | decide | (rw [h0]; decide))); intro yy; clear yy) | decide | omega) | (with_reducible refine frc_bytesL (by first | omega | decide) ?_) | (with_reducible refine frc_bytesM (by first | omega | decide) ?_))
      refine And.intro (show -9223372036854775808 ≤ (k1 : Int) + ((4 : Nat) : Int) ∧ (k1 : Int) + ((4 : Nat) : Int) ≤ 9223372036854775807 by omega) ?_
      (repeat first | (refine And.intro ?_ ?_; first | exact rfl | ((exact fun h => absurd h (by first | decide)); intro yy; clear yy) | (rotate_left; (exact fun h => absurd h (by first | decide)); intro yy; clear yy) | decide | omega) | (with_reducible refine frc_bytesL (by first | omega | decide) ?_) | (with_reducible refine frc_bytesM (by first | omega | decide) ?_))
      exact FinW.of ⟨.tup [.agg (jvS (.mk 0#8 0#64 [] [] []) jc0), .c (.int .i64 0)], _, ⟨[0, 1], ⟨rfl, rfl, rfl⟩, by (repeat first | exact trivial | refine ent1 ?_)⟩, .inl ⟨_, jc0, k1 + 4, W, ms, by rw [hPw, List.drop_drop], by omega, hk9, Later.refl _ _, TAt.leaf rfl rfl _, rfl, rfl⟩⟩
    have h0 : decide ((s.drop k1).take ([110#8, 117#8, 108#8, 108#8] : Bs).length = [110#8, 117#8, 108#8, 108#8]) = false := decide_eq_false w0
    rw [if_neg w0] at hPw
    (repeat first | (refine And.intro ?_ ?_; first | exact rfl | ((exact fun h => absurd h (by first | decide | (rw [h0]; decide))); intro yy; clear yy) | (rotate_left; (exact fun h => absurd h (by first | decide | (rw [h0]; decide))); intro yy; clear yy) | decide | omega) | (with_reducible refine frc_bytesL (by first | omega | decide) ?_) | (with_reducible refine frc_bytesM (by first | omega | decide) ?_))
    (repeat first | (refine And.intro ?_ ?_; first | exact rfl | ((exact fun h => absurd h (by first | decide)); intro yy; clear yy) | (rotate_left; (exact fun h => absurd h (by first | decide)); intro yy; clear yy) | decide | omega) | (with_reducible refine frc_bytesL (by first | omega | decide) ?_) | (with_reducible refine frc_bytesM (by first | omega | decide) ?_))
    refine ⟨none, [], [(0, true), (1, true), (2, true), (3, true), (4, true), (5, true), (6, true), (7, true), (8, true), (9, true), (10, false)], [], by kernel_rfl, ?_⟩
    (repeat first | (refine And.intro ?_ ?_; first | exact rfl | ((exact fun h => absurd h (by first | decide)); intro yy; clear yy) | (rotate_left; (exact fun h => absurd h (by first | decide)); intro yy; clear yy) | decide | omega) | (with_reducible refine frc_bytesL (by first | omega | decide) ?_) | (with_reducible refine frc_bytesM (by first | omega | decide) ?_))
    refine And.intro ⟨by omega, by rw [U8_len]; omega, by omega⟩ ?_
    refine frcN_of (m := k1) (Int.toNat_natCast k1) ?_
    refine frcN_of (m := (U8 s).length) (Int.toNat_natCast _) ?_
    (repeat first | (refine And.intro ?_ ?_; first | exact rfl | ((exact fun h => absurd h (by first | decide)); intro yy; clear yy) | (rotate_left; (exact fun h => absurd h (by first | decide)); intro yy; clear yy) | decide | omega) | (with_reducible refine frc_bytesL (by first | omega | decide) ?_) | (with_reducible refine frc_bytesM (by first | omega | decide) ?_))
    refine call_same (fn_prefix (s.drop k1) [102#8, 97#8, 108#8, 115#8, 101#8] hwl (by decide)) [] rfl (by exact And.intro (U8_rest s k1) (And.intro rfl trivial)) trivial (fun _ _ => trivial) ?_
    rintro x hs' ⟨rfl, rfl⟩
    by_cases w1 : (s.drop k1).take 5 = [102#8, 97#8, 108#8, 115#8, 101#8]
    · have h1 : decide ((s.drop k1).take ([102#8, 97#8, 108#8, 115#8, 101#8] : Bs).length = [102#8, 97#8, 108#8, 115#8, 101#8]) = true := decide_eq_true w1
      rw [if_pos w1] at hPw
      have hk9 : k1 + 5 ≤ s.length := by have := congrArg List.length w1; rw [List.length_take, List.length_drop] at this; simp only [List.length_cons, List.length_nil] at this; omega
      (repeat first | (refine And.intro ?_ ?_; first | exact rfl | ((exact fun h => absurd h (by first | decide | (rw [h1]; decide))); intro yy; clear yy) | (rotate_left; (exact fun h => absurd h (by first | decide | (rw [h1]; decide))); intro yy; clear yy) | decide | omega) | (with_reducible refine frc_bytesL (by first | omega | decide) ?_) | (with_reducible refine frc_bytesM (by first | omega | decide) ?_))
      refine And.intro (show -9223372036854775808 ≤ (k1 : Int) + ((5 : Nat) : Int) ∧ (k1 : Int) + ((5 : Nat) : Int) ≤ 9223372036854775807 by omega) ?_
      (repeat first | (refine And.intro ?_ ?_; first | exact rfl | ((exact fun h => absurd h (by first | decide)); intro yy; clear yy) | (rotate_left; (exact fun h => absurd h (by first | decide)); intro yy; clear yy) | decide | omega) | (with_reducible refine frc_bytesL (by first | omega | decide) ?_) | (with_reducible refine frc_bytesM (by first | omega | decide) ?_))
      exact FinW.of ⟨.tup [.agg (jvS (.mk 1#8 0#64 [] [] []) jc0), .c (.int .i64 0)], _, ⟨[0, 1], ⟨rfl, rfl, rfl⟩, by (repeat first | exact trivial | refine ent1 ?_)⟩, .inl ⟨_, jc0, k1 + 5, W, ms, by rw [hPw, List.drop_drop], by omega, hk9, Later.refl _ _, TAt.leaf rfl rfl _, rfl, rfl⟩⟩
    have h1 : decide ((s.drop k1).take ([102#8, 97#8, 108#8, 115#8, 101#8] : Bs).length = [102#8, 97#8, 108#8, 115#8, 101#8]) = false := decide_eq_false w1
    rw [if_neg w1] at hPw
    (repeat first | (refine And.intro ?_ ?_; first | exact rfl | ((exact fun h => absurd h (by first | decide | (rw [h1]; decide))); intro yy; clear yy) | (rotate_left; (exact fun h => absurd h (by first | decide | (rw [h1]; decide))); intro yy; clear yy) | decide | omega) | (with_reducible refine frc_bytesL (by first | omega | decide) ?_) | (with_reducible refine frc_bytesM (by first | omega | decide) ?_))
    (repeat first | (refine And.intro ?_ ?_; first | exact rfl | ((exact fun h => absurd h (by first | decide)); intro yy; clear yy) | (rotate_left; (exact fun h => absurd h (by first | decide)); intro yy; clear yy) | decide | omega) | (with_reducible refine frc_bytesL (by first | omega | decide) ?_) | (with_reducible refine frc_bytesM (by first | omega | decide) ?_))
    refine ⟨none, [], [(0, true), (1, true), (2, true), (3, true), (4, true), (5, true), (6, true), (7, true), (8, true), (9, true), (10, false)], [], by kernel_rfl, ?_⟩
    (repeat first | (refine And.intro ?_ ?_; first | exact rfl | ((exact fun h => absurd h (by first | decide)); intro yy; clear yy) | (rotate_left; (exact fun h => absurd h (by first | decide)); intro yy; clear yy) | decide | omega) | (with_reducible refine frc_bytesL (by first | omega | decide) ?_) | (with_reducible refine frc_bytesM (by first | omega | decide) ?_))
    refine And.intro ⟨by omega, by rw [U8_len]; omega, by omega⟩ ?_
    refine frcN_of (m := k1) (Int.toNat_natCast k1) ?_
    refine frcN_of (m := (U8 s).length) (Int.toNat_natCast _) ?_
    (repeat first | (refine And.intro ?_ ?_; first | exact rfl | ((exact fun h => absurd h (by first | decide)); intro yy; clear yy) | (rotate_left; (exact fun h => absurd h (by first | decide)); intro yy; clear yy) | decide | omega) | (with_reducible refine frc_bytesL (by first | omega | decide) ?_) | (with_reducible refine frc_bytesM (by first | omega | decide) ?_))
    refine call_same (fn_prefix (s.drop k1) [116#8, 114#8, 117#8, 101#8] hwl (by decide)) [] rfl (by exact And.intro (U8_rest s k1) (And.intro rfl trivial)) trivial (fun _ _ => trivial) ?_
    rintro x hs' ⟨rfl, rfl⟩
    by_cases w2 : (s.drop k1).take 4 = [116#8, 114#8, 117#8, 101#8]
    · have h2 : decide ((s.drop k1).take ([116#8, 114#8, 117#8, 101#8] : Bs).length = [116#8, 114#8, 117#8, 101#8]) = true := decide_eq_true w2
      rw [if_pos w2] at hPw
      have hk9 : k1 + 4 ≤ s.length := by have := congrArg List.length w2; rw [List.length_take, List.length_drop] at this; simp only [List.length_cons, List.length_nil] at this; omega
      (repeat first | (refine And.intro ?_ ?_; first | exact rfl | ((exact fun h => absurd h (by first | decide | (rw [h2]; decide))); intro yy; clear yy) | (rotate_left; (exact fun h => absurd h (by first | decide | (rw [h2]; decide))); intro yy; clear yy) | decide | omega) | (with_reducible refine frc_bytesL (by first | omega | decide) ?_) | (with_reducible refine frc_bytesM (by first | omega | decide) ?_))
      refine And.intro (show -9223372036854775808 ≤ (k1 : Int) + ((4 : Nat) : Int) ∧ (k1 : Int) + ((4 : Nat) : Int) ≤ 9223372036854775807 by omega) ?_
      (repeat first | (refine And.intro ?_ ?_; first | exact rfl | ((exact fun h => absurd h (by first | decide)); intro yy; clear yy) | (rotate_left; (exact fun h => absurd h (by first | decide)); intro yy; clear yy) | decide | omega) | (with_reducible refine frc_bytesL (by first | omega | decide) ?_) | (with_reducible refine frc_bytesM (by first | omega | decide) ?_))
      exact FinW.of ⟨.tup [.agg (jvS (.mk 2#8 0#64 [] [] []) jc0), .c (.int .i64 0)], _, ⟨[0, 1], ⟨rfl, rfl, rfl⟩, by (repeat first | exact trivial | refine ent1 ?_)⟩, .inl ⟨_, jc0, k1 + 4, W, ms, by rw [hPw, List.drop_drop], by omega, hk9, Later.refl _ _, TAt.leaf rfl rfl _, rfl, rfl⟩⟩
    have h2 : decide ((s.drop k1).take ([116#8, 114#8, 117#8, 101#8] : Bs).length = [116#8, 114#8, 117#8, 101#8]) = false := decide_eq_false w2
    rw [if_neg w2] at hPw
    (repeat first | (refine And.intro ?_ ?_; first | exact rfl | ((exact fun h => absurd h (by first | decide | (rw [h2]; decide))); intro yy; clear yy) | (rotate_left; (exact fun h => absurd h (by first | decide | (rw [h2]; decide))); intro yy; clear yy) | decide | omega) | (with_reducible refine frc_bytesL (by first | omega | decide) ?_) | (with_reducible refine frc_bytesM (by first | omega | decide) ?_))
    exact FinW.of ⟨.tup [.agg (jvS jt0 jc0), .c (.int .i64 23)], _, ⟨[0, 1], ⟨rfl, rfl, rfl⟩, by (repeat first | exact trivial | refine ent1 ?_)⟩, .inr ⟨23, jt0, jc0, k1, W, ms, hPw, by decide, g1, g2, Later.refl _ _, rfl, rfl⟩⟩
theorem fn_value (s : Bs) (hs : s.length ≤ 1048576) : ∀ (d depth : Nat), depth + d = 8 → ValC s d depth
  | 0, depth, h => fn_value1 s hs 0 depth h (fun d' e => by cases e)
  | d + 1, depth, h => fn_value1 s hs (d + 1) depth h (fun d' e => by
    injection e with e
    subst e
    exact fn_value s hs d (depth + 1) (by omega))
/-- What Parse answers: a value, or where it isn't right, and why. -/
def ParseA (W : World) (ms : List Nat) (s : Bs) (y : SV) (hs : List (List Seg)) : Prop :=
  (∃ v x W' ms', parse s = .ok v [] ∧ Later W ms W' ms' ∧ TAt W' ms' 8 v x ∧ y = .tup [.agg (jvS v x), .c (.int .i64 0), .c (.int .i64 0)] ∧ hs = [[.past W' ms']]) ∨
  (∃ e k W' ms', parse s = .bad e ∧ e ≠ 0 ∧ k ≤ s.length ∧ Later W ms W' ms' ∧ y = .tup [.agg (jvS jt0 jc0), .c (.int .i64 ((k : Nat) : Int)), .c (.int .i64 e)] ∧ hs = [[.past W' ms']])
set_option maxRecDepth 20000 in
set_option maxHeartbeats 16000000 in
theorem fn_parse {W : World} {ms : List Nat} (hT : Tabs W ms) (s : Bs) (hs : s.length ≤ 4611686018427387904) : FnR Tryd.prog tds 17 1 [[.past W ms]] [.c (.str (U8 s))] (fun _ => True) (ParseA W ms s) := by
  refine fn_of_bodyW tds_ok follows_ Tryd.func17 rfl (t := .a (.c (.str (U8 s))) :: anys (Tryd.f17.ntmps - 1)) rfl (fun w r0 hr0 _ => ?_)
  obtain ⟨x0, rfl⟩ := len1' hr0
  by_cases h : 1048576 < s.length
  · have e : decide ((1048576 : Int) < (((U8 s).length : Nat) : Int)) = true := decide_eq_true (by rw [U8_len]; omega)
    (repeat first | (refine And.intro ?_ ?_; first | exact rfl | ((exact fun h => absurd h (by first | decide | (rw [e]; decide))); intro yy; clear yy) | (rotate_left; (exact fun h => absurd h (by first | decide | (rw [e]; decide))); intro yy; clear yy) | decide | omega) | (with_reducible refine frc_bytesL (by first | omega | decide) ?_) | (with_reducible refine frc_bytesM (by first | omega | decide) ?_))
    exact FinW.of ⟨.tup [.agg (jvS jt0 jc0), .c (.int .i64 ((0 : Nat) : Int)), .c (.int .i64 6)], _, ⟨[0], ⟨rfl, rfl, rfl⟩, by (repeat first | exact trivial | refine ent1 ?_)⟩, .inr ⟨6, 0, W, ms, by unfold parse; rw [if_pos h], by decide, Nat.zero_le _, Later.refl _ _, rfl, rfl⟩⟩
  have e : decide ((1048576 : Int) < (((U8 s).length : Nat) : Int)) = false := decide_eq_false (by rw [U8_len]; omega)
  have hP : parse s = match pval 8 s with
      | .bad e => .bad e
      | .ok v r => if blanks r = [] then .ok v [] else .bad 24 := by
    unfold parse
    rw [if_neg h]
    cases pval 8 s <;> rfl
  (repeat first | (refine And.intro ?_ ?_; first | exact rfl | ((exact fun h => absurd h (by first | decide | (rw [e]; decide))); intro yy; clear yy) | (rotate_left; (exact fun h => absurd h (by first | decide | (rw [e]; decide))); intro yy; clear yy) | decide | omega) | (with_reducible refine frc_bytesL (by first | omega | decide) ?_) | (with_reducible refine frc_bytesM (by first | omega | decide) ?_))
  refine call_past (fn_value s (by omega) 8 0 rfl W ms 0 hT (Nat.zero_le _)) 0 [2] rfl rfl (by (repeat first | exact trivial | refine ent1 ?_)) (by (repeat first | exact trivial | refine ent1 ?_)) (fun _ _ => trivial) (fun x hs hr => ?_) ?_
  · rcases hr with ⟨v, x, k', W5, ms5, _, _, _, hL5, _, _, rfl⟩ | ⟨e, v, x, k', W5, ms5, _, _, _, _, hL5, _, rfl⟩
    · exact ⟨W5, ms5, rfl, hL5⟩
    · exact ⟨W5, ms5, rfl, hL5⟩
  rintro y hs' (⟨v, x, k', W5, ms5, p1, p2, p3, hL5, hx5, rfl, rfl⟩ | ⟨e', v, x, k', W5, ms5, p1, p0, p2, p3, hL5, rfl, rfl⟩)
  · rw [List.drop_zero] at p1
    rw [p1] at hP
    dsimp only at hP
    (repeat first | (refine And.intro ?_ ?_; first | exact rfl | ((exact fun h => absurd h (by first | decide)); intro yy; clear yy) | (rotate_left; (exact fun h => absurd h (by first | decide)); intro yy; clear yy) | decide | omega) | (with_reducible refine frc_bytesL (by first | omega | decide) ?_) | (with_reducible refine frc_bytesM (by first | omega | decide) ?_))
    refine call_same (fn_blanks s k' p3 (by omega)) [2] rfl (by (repeat first | exact trivial | refine ent1 ?_)) (by (repeat first | exact trivial | refine ent1 ?_)) (fun _ _ => trivial) ?_
    rintro y hs' ⟨k2, r1, r2, r3, rfl, rfl⟩
    rw [← r3] at hP
    by_cases c : k2 < s.length
    · have f1 : decide ((k2 : Int) < (((U8 s).length : Nat) : Int)) = true := decide_eq_true (by rw [U8_len]; omega)
      rw [if_neg (by rw [drop_cons s k2 c]; exact List.cons_ne_nil _ _)] at hP
      (repeat first | (refine And.intro ?_ ?_; first | exact rfl | ((exact fun h => absurd h (by first | decide | (rw [f1]; decide))); intro yy; clear yy) | (rotate_left; (exact fun h => absurd h (by first | decide | (rw [f1]; decide))); intro yy; clear yy) | decide | omega) | (with_reducible refine frc_bytesL (by first | omega | decide) ?_) | (with_reducible refine frc_bytesM (by first | omega | decide) ?_))
      refine ⟨some [2], [], [(0, true), (1, true), (2, true), (3, true), (4, true), (5, true), (6, false), (7, true), (8, true)], [], by kernel_rfl, ?_⟩
      (repeat first | (refine And.intro ?_ ?_; first | exact rfl | ((exact fun h => absurd h (by first | decide)); intro yy; clear yy) | (rotate_left; (exact fun h => absurd h (by first | decide)); intro yy; clear yy) | decide | omega) | (with_reducible refine frc_bytesL (by first | omega | decide) ?_) | (with_reducible refine frc_bytesM (by first | omega | decide) ?_))
      exact FinW.of ⟨.tup [.agg (jvS jt0 jc0), .c (.int .i64 ((k2 : Nat) : Int)), .c (.int .i64 24)], _, ⟨[0], ⟨rfl, rfl, rfl⟩, by (repeat first | exact trivial | refine ent1 ?_)⟩, .inr ⟨24, k2, W5, ms5, hP, by decide, r2, hL5, rfl, rfl⟩⟩
    · have f1 : decide ((k2 : Int) < (((U8 s).length : Nat) : Int)) = false := decide_eq_false (by rw [U8_len]; omega)
      rw [if_pos (List.drop_eq_nil_of_le (by omega))] at hP
      (repeat first | (refine And.intro ?_ ?_; first | exact rfl | ((exact fun h => absurd h (by first | decide | (rw [f1]; decide))); intro yy; clear yy) | (rotate_left; (exact fun h => absurd h (by first | decide | (rw [f1]; decide))); intro yy; clear yy) | decide | omega) | (with_reducible refine frc_bytesL (by first | omega | decide) ?_) | (with_reducible refine frc_bytesM (by first | omega | decide) ?_))
      exact FinW.of ⟨.tup [.agg (jvS v x), .c (.int .i64 0), .c (.int .i64 0)], _, ⟨[0], ⟨rfl, rfl, rfl⟩, by (repeat first | exact trivial | refine ent1 ?_)⟩, .inl ⟨v, x, W5, ms5, hP, hL5, hx5, rfl, rfl⟩⟩
  · rw [List.drop_zero] at p1
    rw [p1] at hP
    have f1 : decide (e' = 0) = false := decide_eq_false p0
    have f2 : decide (e' ≠ 0) = true := decide_eq_true p0
    (repeat first | (refine And.intro ?_ ?_; first | exact rfl | ((exact fun h => absurd h (by first | decide | (rw [f1]; decide) | (rw [f2]; decide))); intro yy; clear yy) | (rotate_left; (exact fun h => absurd h (by first | decide | (rw [f1]; decide) | (rw [f2]; decide))); intro yy; clear yy) | decide | omega) | (with_reducible refine frc_bytesL (by first | omega | decide) ?_) | (with_reducible refine frc_bytesM (by first | omega | decide) ?_))
    refine ⟨some [2], [], [(0, true), (1, true), (2, true), (3, true), (4, true), (5, true), (6, false), (7, true), (8, true)], [], by kernel_rfl, ?_⟩
    (repeat first | (refine And.intro ?_ ?_; first | exact rfl | ((exact fun h => absurd h (by first | decide)); intro yy; clear yy) | (rotate_left; (exact fun h => absurd h (by first | decide)); intro yy; clear yy) | decide | omega) | (with_reducible refine frc_bytesL (by first | omega | decide) ?_) | (with_reducible refine frc_bytesM (by first | omega | decide) ?_))
    exact FinW.of ⟨.tup [.agg (jvS jt0 jc0), .c (.int .i64 ((k' : Nat) : Int)), .c (.int .i64 e')], _, ⟨[0], ⟨rfl, rfl, rfl⟩, by (repeat first | exact trivial | refine ent1 ?_)⟩, .inr ⟨e', k', W5, ms5, hP, p0, p3, hL5, rfl, rfl⟩⟩
end Sx
end Go.Proofs.YtnehmcpkeamghaaDoor
end

section
/-
  Writing a value that was read: put, Check, Print. No condition.
-/
namespace Go.Proofs.YtnehmcpkeamghaaDoor
set_option linter.unusedVariables false
namespace Js
open Sha
theorem qr_enc_le (r : Nat) (h : scal r) : (enc r).length ≤ (qr r).length := by
  unfold qr
  split
  · rename_i h; rcases h with h | h <;> subst h <;> decide
  split
  · rename_i h; subst h; decide
  split
  · rename_i h; subst h; decide
  split
  · rename_i h; subst h; decide
  split
  · unfold enc; rw [if_pos (by omega)]; show 1 ≤ 6; decide
  · exact Nat.le_refl _
theorem flat_le : ∀ (rs : List Nat), (∀ r ∈ rs, scal r) → (rs.flatMap enc).length ≤ (rs.flatMap qr).length
  | [], _ => Nat.le_refl _
  | r :: rs, h => by
    rw [List.flatMap_cons, List.flatMap_cons, List.length_append, List.length_append]
    have h1 := qr_enc_le r (h r (List.mem_cons_self ..))
    have h2 := flat_le rs (fun x hx => h x (List.mem_cons_of_mem _ hx))
    omega
theorem quote_len {s : Bs} (h : Utf s) : s.length ≤ (quote s).length := by
  obtain ⟨rs, hrs, rfl⟩ := h
  rw [quote_of hrs]
  have := flat_le rs hrs
  simp only [List.length_cons, List.length_append, List.length_nil]
  omega
theorem putL_mem (pv : JT → Bs) : ∀ (l : List JT), ∀ x ∈ l, (pv x).length ≤ (putL pv l).length
  | [], x, h => absurd h (by simp)
  | [y], x, h => by
    simp only [List.mem_singleton] at h
    subst h; exact Nat.le_refl _
  | y :: z :: l, x, h => by
    show _ ≤ (pv y ++ 44#8 :: putL pv (z :: l)).length
    rw [List.length_append, List.length_cons]
    rcases List.mem_cons.1 h with h | h
    · subst h; omega
    · have := putL_mem pv (z :: l) x h; omega
theorem putO_mem (pv : JT → Bs) : ∀ (ns : List Bs) (l : List JT), ns.length = l.length → (∀ x ∈ l, (pv x).length ≤ (putO pv ns l).length) ∧ ∀ s ∈ ns, (quote s).length ≤ (putO pv ns l).length
  | [], [], _ => ⟨fun x h => absurd h (by simp), fun x h => absurd h (by simp)⟩
  | [s], [y], _ => by
    refine ⟨fun x h => ?_, fun x h => ?_⟩
    · simp only [List.mem_singleton] at h
      subst h
      show _ ≤ (quote s ++ 58#8 :: pv _).length
      rw [List.length_append, List.length_cons]; omega
    · simp only [List.mem_singleton] at h
      subst h
      show _ ≤ (quote _ ++ 58#8 :: pv y).length
      rw [List.length_append, List.length_cons]; omega
  | s :: t :: ns, y :: z :: l, h => by
    obtain ⟨h1, h2⟩ := putO_mem pv (t :: ns) (z :: l) (by simpa using h)
    have e : putO pv (s :: t :: ns) (y :: z :: l) = quote s ++ 58#8 :: (pv y ++ 44#8 :: putO pv (t :: ns) (z :: l)) := rfl
    rw [e]
    simp only [List.length_append, List.length_cons] at h1 h2 ⊢
    refine ⟨fun x h => ?_, fun x h => ?_⟩
    · rcases List.mem_cons.1 h with h | h
      · subst h; omega
      · have := h1 x h; omega
    · rcases List.mem_cons.1 h with h | h
      · subst h; omega
      · have := h2 x h; omega
end Js
namespace Sx
open Go.RowKit Sha Vi Js

theorem fn_put : ∀ d, PutC d
  | 0 => fun W ms v x b c hT hx hn hc hl => fn_put1 0 (fun d' e => by cases e) b c hT hx hn hc hl
  | d + 1 => fun W ms v x b c hT hx hn hc hl => fn_put1 (d + 1) (fun d' e => by injection e with e; subst e; exact fn_put d) b c hT hx hn hc hl
theorem fn_putN (d : Nat) {W : World} {ms : List Nat} {v : JT} {x : JC} (hT : Tabs W ms) (hx : TAt W ms d v x) (hn : norm d v) (hl : (put d v).length ≤ 70368744177664) :
    FnR Tryd.prog tds 45 1 [[.past W ms]] [.agg (jvS v x), .c (.slc none 0 0)] (fun _ => True)
    (fun y hs => ∃ c', (put d v).length ≤ c' ∧ y = .a (.c (.sl 1 0 0 (put d v).length c')) ∧ hs = [[.past W ms], lsC (put d v) c']) := fn_put0 d (fun d' _ => fn_put d') hT hx hn hl
set_option maxRecDepth 20000 in
set_option maxHeartbeats 8000000 in
theorem fn_names {W : World} {ms : List Nat} (hT : Tabs W ms) {a : Option Addr} {m c : Nat} {ns : List Bs} (h : StAt W ms a m c (ns.map U8)) (hu : ∀ s ∈ ns, Utf s) (hnd : ns.Nodup) (hl : ∀ s ∈ ns, s.length ≤ 9223372036854775807) :
    FnR Tryd.prog tds 66 1 [[.past W ms]] [.c (.slc a m c)] (fun _ => True) (fun y hs => y = .a (.c (.int .i64 0)) ∧ hs = [[.past W ms]]) := by
  refine fn_of_body tds_ok follows_ Tryd.func66 rfl (t := .a (.c (.slc a m c)) :: anys (Tryd.f66.ntmps - 1)) rfl (fun w r0 hr0 _ => ?_)
  obtain ⟨x0, rfl⟩ := len1' hr0
  have hm : ns.length = m := by have h1 := h.len; simp only [List.length_map] at h1; omega
  have hcap := h.cap
  by_cases h0 : m = 0
  · have e0 : decide ((m : Int) = 0) = true := decide_eq_true (by omega)
    (repeat first | (refine And.intro ?_ ?_; first | exact rfl | ((exact fun h => absurd h (by first | decide | (rw [e0]; decide))); intro yy; clear yy) | (rotate_left; (exact fun h => absurd h (by first | decide | (rw [e0]; decide))); intro yy; clear yy) | decide | omega) | (with_reducible refine frc_bytesL (by first | omega | decide) ?_) | (with_reducible refine frc_bytesM (by first | omega | decide) ?_))
    exact ⟨.a (.c (.int .i64 0)), _, ⟨[0], ⟨rfl, rfl, rfl⟩, by (repeat first | exact trivial | refine ent1 ?_)⟩, rfl, rfl⟩
  have e0 : decide ((m : Int) = 0) = false := decide_eq_false (by omega)
  (repeat first | (refine And.intro ?_ ?_; first | exact rfl | ((exact fun h => absurd h (by first | decide | (rw [e0]; decide))); intro yy; clear yy) | (rotate_left; (exact fun h => absurd h (by first | decide | (rw [e0]; decide))); intro yy; clear yy) | decide | omega) | (with_reducible refine frc_bytesL (by first | omega | decide) ?_) | (with_reducible refine frc_bytesM (by first | omega | decide) ?_))
  refine And.intro trivial ?_
  (repeat first | (refine And.intro ?_ ?_; first | exact rfl | ((exact fun h => absurd h (by first | decide)); intro yy; clear yy) | (rotate_left; (exact fun h => absurd h (by first | decide)); intro yy; clear yy) | decide | omega) | (with_reducible refine frc_bytesL (by first | omega | decide) ?_) | (with_reducible refine frc_bytesM (by first | omega | decide) ?_))
  refine .inl ⟨Nat, fun j => ⟨[.a (.c (.slc a m c)), .any, .a (.c (.int .i64 (0))), .a (.c (.mh 1)), .any, .any, .any, .any, .any, .any, .any, .any, .any, .any, .a (.c (.slc a m c)), .a (.c (.int .i64 (m))), .a (.c (.int .i64 (((j : Nat) : Int)))), .any, .any, .any, .any, .any, .any, .any, .any, .any, .any, .any, .any, .any, .any, .any, .any, .any], [[.past W ms], hadC (ns.take j)]⟩,
    fun j => j ≤ ns.length, fun j => ns.length - j, ⟨0, [0, 1], ⟨⟨rfl, rfl, rfl⟩, by (repeat first | exact trivial | refine ent1 ?_)⟩, Nat.zero_le _⟩, fun j hj0 => ?_⟩
  by_cases hj : j < ns.length
  rotate_left
  · have e1 : decide ((j : Int) < (m : Int)) = false := decide_eq_false (by omega)
    (repeat first | (refine And.intro ?_ ?_; first | exact rfl | ((exact fun h => absurd h (by first | decide | (rw [e1]; decide))); intro yy; clear yy) | (rotate_left; (exact fun h => absurd h (by first | decide | (rw [e1]; decide))); intro yy; clear yy) | decide | omega) | (with_reducible refine frc_bytesL (by first | omega | decide) ?_) | (with_reducible refine frc_bytesM (by first | omega | decide) ?_))
    exact ⟨.a (.c (.int .i64 0)), _, ⟨[0], ⟨rfl, rfl, rfl⟩, by (repeat first | exact trivial | refine ent1 ?_)⟩, rfl, rfl⟩
  have e1 : decide ((j : Int) < (m : Int)) = true := decide_eq_true (by omega)
  obtain ⟨A, rfl⟩ : ∃ A, a = some A := by
    cases a with
    | none => exact absurd (h.nil rfl) (by have := h.le; omega)
    | some A => exact ⟨A, rfl⟩
  have him := (h.im A rfl (by have := h.le; omega)).one (show ((ns.map U8).map SC.str)[j]? = some (.str (U8 ns[j])) by simp [hj])
  (repeat first | (refine And.intro ?_ ?_; first | exact rfl | ((exact fun h => absurd h (by first | decide | (rw [e1]; decide))); intro yy; clear yy) | (rotate_left; (exact fun h => absurd h (by first | decide | (rw [e1]; decide))); intro yy; clear yy) | decide | omega) | (with_reducible refine frc_bytesL (by first | omega | decide) ?_) | (with_reducible refine frc_bytesM (by first | omega | decide) ?_))
  refine ⟨[.one (.str (U8 ns[j]))], ⟨.past (i := 0) rfl (by show ImAt W ms (A.add (j * 1)) _; rw [Nat.mul_one]; exact him), rfl⟩, ?_⟩
  (repeat first | (refine And.intro ?_ ?_; first | exact rfl | ((exact fun h => absurd h (by first | decide)); intro yy; clear yy) | (rotate_left; (exact fun h => absurd h (by first | decide)); intro yy; clear yy) | decide | omega) | (with_reducible refine frc_bytesL (by first | omega | decide) ?_) | (with_reducible refine frc_bytesM (by first | omega | decide) ?_))
  refine call_same (fn_valid hT (hu _ (List.getElem_mem hj)) (hl _ (List.getElem_mem hj))) [0] rfl (by exact And.intro rfl trivial) (by (repeat first | exact trivial | refine ent1 ?_)) (fun _ _ => trivial) ?_
  rintro y hs ⟨rfl, rfl⟩
  have hni : ns[j] ∉ ns.take j := by
    intro hc
    obtain ⟨i, hi, he⟩ := List.mem_iff_getElem.1 hc
    rw [List.length_take] at hi
    rw [List.getElem_take] at he
    exact List.pairwise_iff_getElem.1 hnd i j (by omega) hj (by omega) he
  have hh := hasS_U8 ns[j] (ns.take j)
  rw [decide_eq_false hni] at hh
  have hput : putL' (U8 ns[j]) ((ns.take j).map U8) = (ns.take (j + 1)).map U8 := by
    unfold putL'; rw [hh, List.take_add_one, List.getElem?_eq_getElem hj, Option.toList_some, List.map_append]; rfl
  (repeat first | (refine And.intro ?_ ?_; first | exact rfl | ((exact fun h => absurd h (by first | decide | (rw [hh]; decide))); intro yy; clear yy) | (rotate_left; (exact fun h => absurd h (by first | decide | (rw [hh]; decide))); intro yy; clear yy) | decide | omega) | (with_reducible refine frc_bytesL (by first | omega | decide) ?_) | (with_reducible refine frc_bytesM (by first | omega | decide) ?_))
  rw [hput]
  refine ⟨j + 1, [0, 1], ⟨⟨rfl, rfl, rfl⟩, ?_⟩, hj, by dsimp only; omega⟩
  (repeat first | exact trivial | refine ent1 ?_)
/-- What is told of a value that is looked at, so many levels down. -/
def ChkC (d depth : Nat) : Prop := ∀ (W : World) (ms : List Nat) (v : JT) (x : JC), Tabs W ms → TAt W ms d v x → norm d v → (put d v).length ≤ 70368744177664 →
  FnR Tryd.prog tds 46 1 [[.past W ms], [.one (.slc none 0 0)]] [.c (.p 1 0 0), .agg (jvS v x), .c (.int .i64 (depth : Int))] (fun _ => True) (fun y hs => y = .a (.c (.int .i64 0)) ∧ hs = [[.past W ms], [.one (.slc none 0 0)]])
theorem fn_nests (k : BitVec 8) : Fn Tryd.prog tds 64 [] [.c (.w8 k)] (fun _ => True) (fun y hs => y = .a (.c (.bool (decide (k = 5#8 ∨ k = 6#8)))) ∧ hs = []) := by
  refine fn_of_body tds_ok follows_ Tryd.func64 rfl (t := .a (.c (.w8 k)) :: anys (Tryd.f64.ntmps - 1)) rfl (fun w r0 hr0 _ => ?_)
  obtain rfl : r0 = [] := List.eq_nil_of_length_eq_zero hr0
  by_cases h5 : k = 5#8
  · have e5 : decide (k = 5#8) = true := decide_eq_true h5
    rw [decide_eq_true (Or.inl h5)]
    (repeat first | (refine And.intro ?_ ?_; first | exact rfl | ((exact fun h => absurd h (by first | decide | (rw [e5]; decide))); intro yy; clear yy) | (rotate_left; (exact fun h => absurd h (by first | decide | (rw [e5]; decide))); intro yy; clear yy) | decide | omega) | (with_reducible refine frc_bytesL (by first | omega | decide) ?_) | (with_reducible refine frc_bytesM (by first | omega | decide) ?_))
    exact ⟨.a (.c (.bool true)), _, ⟨[], ⟨rfl, rfl, rfl⟩, by (repeat first | exact trivial | refine ent1 ?_)⟩, rfl, rfl⟩
  have e5 : decide (k = 5#8) = false := decide_eq_false h5
  have e6 : decide (k = 5#8 ∨ k = 6#8) = decide (k = 6#8) := decide_eq_decide.2 ⟨fun h => h.resolve_left h5, .inr⟩
  rw [e6]
  (repeat first | (refine And.intro ?_ ?_; first | exact rfl | ((exact fun h => absurd h (by first | decide | (rw [e5]; decide))); intro yy; clear yy) | (rotate_left; (exact fun h => absurd h (by first | decide | (rw [e5]; decide))); intro yy; clear yy) | decide | omega) | (with_reducible refine frc_bytesL (by first | omega | decide) ?_) | (with_reducible refine frc_bytesM (by first | omega | decide) ?_))
  exact ⟨.a (.c (.bool (decide (k = 6#8)))), _, ⟨[], ⟨rfl, rfl, rfl⟩, by (repeat first | exact trivial | refine ent1 ?_)⟩, rfl, rfl⟩
set_option maxRecDepth 20000 in
set_option maxHeartbeats 16000000 in
theorem fn_chk1 (d depth : Nat) (hdd : depth + d ≤ 8) (hrec : ∀ d', d = d' + 1 → ChkC d' (depth + 1)) : ChkC d depth := by
  intro W ms v x hT hx hn hl
  refine fn_of_body tds_ok follows_ Tryd.func46 rfl (t := .a (.c (.p 1 0 0)) :: .a (.agg (jvS v x)) :: .a (.c (.int .i64 (depth : Int))) :: anys (Tryd.f46.ntmps - 3)) rfl (fun w r0 hr0 _ => ?_)
  obtain ⟨x0, x1, rfl⟩ := len2' hr0
  have hk6 : v.k.toNat ≤ 6 := by
    cases d with
    | zero => have := hn.2.2.2.2.1; omega
    | succ d =>
      rcases hn with hlf | ⟨_, _, _, h5 | h6⟩
      · have := hlf.2.2.2.2.1; omega
      · rw [h5.1]; decide
      · rw [h6.1]; decide
  have hU : Utf v.s := by
    cases d with
    | zero => exact hn.2.2.2.2.2
    | succ d =>
      rcases hn with hlf | ⟨_, h2, _⟩
      · exact hlf.2.2.2.2.2
      · rw [h2]; exact ⟨[], by simp, rfl⟩
  have f0 : decide (6#8 < v.k) = false := decide_eq_false (by rw [BitVec.lt_def]; show ¬ 6 < v.k.toNat; omega)
  have hsl : v.s.length ≤ 9223372036854775807 := by
    have h1 : v.k = 4#8 ∨ v.s = [] := by
      cases d with
      | zero => exact hn.2.2.2.1
      | succ d =>
        rcases hn with hlf | ⟨_, h2, _⟩
        · exact hlf.2.2.2.1
        · exact .inr h2
    rcases h1 with h1 | h1
    · have h2 : put d v = quote v.s := by cases d <;> (unfold put put1; rw [if_neg (by rw [h1]; decide), if_neg (by rw [h1]; decide), if_neg (by rw [h1]; decide), if_neg (by rw [h1]; decide), if_pos h1])
      have h3 := quote_len hU
      rw [h2] at hl; omega
    · rw [h1]; exact Nat.zero_le _
  have hxl := hx.len
  have hxn := hx.ns
  by_cases kn : v.k = 5#8 ∨ v.k = 6#8
  rotate_left
  · have en : decide (v.k = 5#8 ∨ v.k = 6#8) = false := decide_eq_false kn
    have e6 : decide (v.k = 6#8) = false := decide_eq_false fun h => kn (.inr h)
    have hlf : leaf v := by
      cases d with
      | zero => exact hn
      | succ d =>
        rcases hn with hlf | ⟨_, _, _, h5 | h6⟩
        · exact hlf
        · exact absurd (.inl h5.1) kn
        · exact absurd (.inr h6.1) kn
    have em : decide ((x.m : Int) = 0) = true := decide_eq_true (by rw [hlf.1] at hxl; simp at hxl; omega)
    (repeat first | (refine And.intro ?_ ?_; first | exact rfl | ((exact fun h => absurd h (by first | decide | (rw [f0]; decide))); intro yy; clear yy) | (rotate_left; (exact fun h => absurd h (by first | decide | (rw [f0]; decide))); intro yy; clear yy) | decide | omega) | (with_reducible refine frc_bytesL (by first | omega | decide) ?_) | (with_reducible refine frc_bytesM (by first | omega | decide) ?_))
    refine call_same (fn_nests v.k) [] rfl (by exact And.intro rfl trivial) trivial (fun _ _ => trivial) ?_
    rintro y hs ⟨rfl, rfl⟩
    (repeat first | (refine And.intro ?_ ?_; first | exact rfl | ((exact fun h => absurd h (by first | decide | (rw [en]; decide))); intro yy; clear yy) | (rotate_left; (exact fun h => absurd h (by first | decide | (rw [en]; decide))); intro yy; clear yy) | decide | omega) | (with_reducible refine frc_bytesL (by first | omega | decide) ?_) | (with_reducible refine frc_bytesM (by first | omega | decide) ?_))
    refine call_same (fn_valid hT hU hsl) [0] rfl (by exact And.intro rfl trivial) (by (repeat first | exact trivial | refine ent1 ?_)) (fun _ _ => trivial) ?_
    rintro y hs ⟨rfl, rfl⟩
    (repeat first | (refine And.intro ?_ ?_; first | exact rfl | ((exact fun h => absurd h (by first | decide | (rw [e6]; decide))); intro yy; clear yy) | (rotate_left; (exact fun h => absurd h (by first | decide | (rw [e6]; decide))); intro yy; clear yy) | decide | omega) | (with_reducible refine frc_bytesL (by first | omega | decide) ?_) | (with_reducible refine frc_bytesM (by first | omega | decide) ?_))
    refine call_same (fn_names hT hxn (by rw [hlf.2.1]; simp) (by rw [hlf.2.1]; simp) (by rw [hlf.2.1]; simp)) [0] rfl (by exact And.intro rfl trivial) (by (repeat first | exact trivial | refine ent1 ?_)) (fun _ _ => trivial) ?_
    rintro y hs ⟨rfl, rfl⟩
    (repeat first | (refine And.intro ?_ ?_; first | exact rfl | ((exact fun h => absurd h (by first | decide | (rw [em]; decide))); intro yy; clear yy) | (rotate_left; (exact fun h => absurd h (by first | decide | (rw [em]; decide))); intro yy; clear yy) | decide | omega) | (with_reducible refine frc_bytesL (by first | omega | decide) ?_) | (with_reducible refine frc_bytesM (by first | omega | decide) ?_))
    exact ⟨.a (.c (.int .i64 0)), _, ⟨[0, 1], ⟨rfl, rfl, rfl⟩, by (repeat first | exact trivial | refine ent1 ?_)⟩, rfl, rfl⟩
  have en : decide (v.k = 5#8 ∨ v.k = 6#8) = true := decide_eq_true kn
  obtain ⟨d', rfl, hv3, hk⟩ : ∃ d', d = d' + 1 ∧ (∀ x ∈ v.l, norm d' x) ∧ ((v.k = 5#8 ∧ v.ns = []) ∨ (v.k = 6#8 ∧ v.ns.length = v.l.length ∧ v.ns.Nodup ∧ ∀ s ∈ v.ns, Utf s)) := by
    have hno : ¬ leaf v := fun hlf => by
      have := hlf.2.2.2.2.1
      rcases kn with h | h <;> rw [h] at this <;> exact absurd this (by decide)
    cases d with
    | zero => exact absurd hn hno
    | succ d => exact ⟨d, rfl, (hn.resolve_left hno).2.2⟩
  have hput : (∀ x ∈ v.l, (put d' x).length ≤ 70368744177664) ∧ ∀ s ∈ v.ns, s.length ≤ 9223372036854775807 := by
    rcases hk with ⟨h5, h6⟩ | ⟨h6, hnl, _, hu⟩
    · have h2 : put (d' + 1) v = 91#8 :: (putL (put d') v.l ++ [93#8])   := by show put1 _ _ v = _; unfold put1; rw [if_neg (by rw [h5]; decide), if_neg (by rw [h5]; decide), if_neg (by rw [h5]; decide), if_neg (by rw [h5]; decide), if_neg (by rw [h5]; decide), if_pos h5]
      rw [h2] at hl
      simp only [List.length_cons, List.length_append, List.length_nil] at hl
      exact ⟨fun x hx => by have := Js.putL_mem (put d') v.l x hx; omega, by rw [h6]; simp⟩
    · have h2 : put (d' + 1) v = 123#8 :: (putO (put d') v.ns v.l ++ [125#8])   := by show put1 _ _ v = _; unfold put1; rw [if_neg (by rw [h6]; decide), if_neg (by rw [h6]; decide), if_neg (by rw [h6]; decide), if_neg (by rw [h6]; decide), if_neg (by rw [h6]; decide), if_neg (by rw [h6]; decide)]
      rw [h2] at hl
      simp only [List.length_cons, List.length_append, List.length_nil] at hl
      obtain ⟨q1, q2⟩ := putO_mem (put d') v.ns v.l hnl
      exact ⟨fun x hx => by have := q1 x hx; omega, fun s hs => by have := q2 s hs; have := quote_len (hu s hs); omega⟩
  obtain ⟨hput, hnlen⟩ := hput
  have hnu : ∀ s ∈ v.ns, Utf s := by
    rcases hk with ⟨_, h6⟩ | ⟨_, _, _, hu⟩
    · rw [h6]; simp
    · exact hu
  have hnd : v.ns.Nodup := by
    rcases hk with ⟨_, h6⟩ | ⟨_, _, hd, _⟩
    · rw [h6]; simp
    · exact hd
  have e8 : decide ((8 : Int) ≤ (depth : Int)) = false := decide_eq_false (by omega)
  obtain ⟨⟨g1, g2, g3, g4, g5⟩, hns⟩ := hx
  obtain ⟨xa, xm, xc, xb, xp, xq⟩ := x
  dsimp only at g1 g2 g3 g4 g5 hns
  have e6 : (decide (v.k = 6#8) = true ∧ decide ((xp : Int) ≠ (xm : Int)) = false) ∨ decide (v.k = 6#8) = false := by
    rcases hk with ⟨h5, _⟩ | ⟨h6, hnl, _⟩
    · exact .inr (decide_eq_false (by rw [h5]; decide))
    · refine .inl ⟨decide_eq_true h6, decide_eq_false (not_not_intro ?_)⟩
      have h1 := hns.len
      simp only [List.length_map] at h1
      omega
  (repeat first | (refine And.intro ?_ ?_; first | exact rfl | ((exact fun h => absurd h (by first | decide | (rw [f0]; decide))); intro yy; clear yy) | (rotate_left; (exact fun h => absurd h (by first | decide | (rw [f0]; decide))); intro yy; clear yy) | decide | omega) | (with_reducible refine frc_bytesL (by first | omega | decide) ?_) | (with_reducible refine frc_bytesM (by first | omega | decide) ?_))
  refine call_same (fn_nests v.k) [] rfl (by exact And.intro rfl trivial) trivial (fun _ _ => trivial) ?_
  rintro y hs ⟨rfl, rfl⟩
  (repeat first | (refine And.intro ?_ ?_; first | exact rfl | ((exact fun h => absurd h (by first | decide | (rw [en]; decide) | (rw [e8]; decide))); intro yy; clear yy) | (rotate_left; (exact fun h => absurd h (by first | decide | (rw [en]; decide) | (rw [e8]; decide))); intro yy; clear yy) | decide | omega) | (with_reducible refine frc_bytesL (by first | omega | decide) ?_) | (with_reducible refine frc_bytesM (by first | omega | decide) ?_))
  refine call_same (fn_valid hT hU hsl) [0] rfl (by exact And.intro rfl trivial) (by (repeat first | exact trivial | refine ent1 ?_)) (fun _ _ => trivial) ?_
  rintro y hs ⟨rfl, rfl⟩
  rcases e6 with ⟨e6, e7⟩ | e6
  · (repeat first | (refine And.intro ?_ ?_; first | exact rfl | ((exact fun h => absurd h (by first | decide | (rw [e6]; decide) | (rw [e7]; decide))); intro yy; clear yy) | (rotate_left; (exact fun h => absurd h (by first | decide | (rw [e6]; decide) | (rw [e7]; decide))); intro yy; clear yy) | decide | omega) | (with_reducible refine frc_bytesL (by first | omega | decide) ?_) | (with_reducible refine frc_bytesM (by first | omega | decide) ?_))
    refine call_same (fn_names hT hns hnu hnd hnlen) [0] rfl (by exact And.intro rfl trivial) (by (repeat first | exact trivial | refine ent1 ?_)) (fun _ _ => trivial) ?_
    rintro y hs ⟨rfl, rfl⟩
    by_cases hm0 : xm = 0
    · have em : decide ((xm : Int) = 0) = true := decide_eq_true (by omega)
      (repeat first | (refine And.intro ?_ ?_; first | exact rfl | ((exact fun h => absurd h (by first | decide | (rw [em]; decide))); intro yy; clear yy) | (rotate_left; (exact fun h => absurd h (by first | decide | (rw [em]; decide))); intro yy; clear yy) | decide | omega) | (with_reducible refine frc_bytesL (by first | omega | decide) ?_) | (with_reducible refine frc_bytesM (by first | omega | decide) ?_))
      exact ⟨.a (.c (.int .i64 0)), _, ⟨[0, 1], ⟨rfl, rfl, rfl⟩, by (repeat first | exact trivial | refine ent1 ?_)⟩, rfl, rfl⟩
    have em : decide ((xm : Int) = 0) = false := decide_eq_false (by omega)
    (repeat first | (refine And.intro ?_ ?_; first | exact rfl | ((exact fun h => absurd h (by first | decide | (rw [em]; decide))); intro yy; clear yy) | (rotate_left; (exact fun h => absurd h (by first | decide | (rw [em]; decide))); intro yy; clear yy) | decide | omega) | (with_reducible refine frc_bytesL (by first | omega | decide) ?_) | (with_reducible refine frc_bytesM (by first | omega | decide) ?_))
    refine call_same (fn_nests v.k) [] rfl (by exact And.intro rfl trivial) trivial (fun _ _ => trivial) ?_
    rintro y hs ⟨rfl, rfl⟩
    (repeat first | (refine And.intro ?_ ?_; first | exact rfl | ((exact fun h => absurd h (by first | decide | (rw [en]; decide))); intro yy; clear yy) | (rotate_left; (exact fun h => absurd h (by first | decide | (rw [en]; decide))); intro yy; clear yy) | decide | omega) | (with_reducible refine frc_bytesL (by first | omega | decide) ?_) | (with_reducible refine frc_bytesM (by first | omega | decide) ?_))
    refine .inl ⟨Nat, fun j => ⟨[.a (.c (.p 1 0 0)), .any, .a (.c (.int .i64 ((((depth + 1 : Nat)) : Int)))), .any, .any, .any, .a (.c (.int .i64 (0))), .any, .any, .any, .any, .any, .any, .any, .any, .any, .any, .any, .any, .any, .any, .any, .any, .any, .any, .any, .any, .any, .any, .any, .any, .any, .any, .any, .any, .any, .any, .any, .any, .any, .any, .any, .any, .any, .any, .any, .any, .any, .any, .any, .any, .any, .any, .any, .any, .any, .any, .any, .any, .any, .any, .any, .any, .any, .any, .any, .any, .any, .any, .any, .any, .any, .any, .any, .any, .any, .any, .any, .any, .any, .any, .any, .a (.c (.slc xa xm xc)), .a (.c (.int .i64 (xm))), .a (.c (.int .i64 (((j : Nat) : Int)))), .any, .any, .any, .any, .any, .any, .any, .any, .any, .any, .any], [[.past W ms], [.one (.slc none 0 0)]]⟩,
      fun j => j ≤ v.l.length, fun j => v.l.length - j, ⟨0, [0, 1], ⟨⟨rfl, rfl, rfl⟩, ?_⟩, Nat.zero_le _⟩, fun j hj0 => ?_⟩
    · (repeat first | exact trivial | refine ent1 ?_)
    by_cases hj : j < v.l.length
    rotate_left
    · have e1 : decide ((j : Int) < (xm : Int)) = false := decide_eq_false (by omega)
      (repeat first | (refine And.intro ?_ ?_; first | exact rfl | ((exact fun h => absurd h (by first | decide | (rw [e1]; decide))); intro yy; clear yy) | (rotate_left; (exact fun h => absurd h (by first | decide | (rw [e1]; decide))); intro yy; clear yy) | decide | omega) | (with_reducible refine frc_bytesL (by first | omega | decide) ?_) | (with_reducible refine frc_bytesM (by first | omega | decide) ?_))
      exact ⟨.a (.c (.int .i64 0)), _, ⟨[0, 1], ⟨rfl, rfl, rfl⟩, by (repeat first | exact trivial | refine ent1 ?_)⟩, rfl, rfl⟩
    have e1 : decide ((j : Int) < (xm : Int)) = true := decide_eq_true (by omega)
    obtain ⟨A, rfl⟩ : ∃ A, xa = some A := by
      cases xa with
      | none => exact absurd (g4 rfl) (by omega)
      | some A => exact ⟨A, rfl⟩
    obtain ⟨y, y1, y2⟩ := (g5 A rfl (by omega)).2 j v.l[j] (List.getElem?_eq_getElem hj)
    (repeat first | (refine And.intro ?_ ?_; first | exact rfl | ((exact fun h => absurd h (by first | decide | (rw [e1]; decide))); intro yy; clear yy) | (rotate_left; (exact fun h => absurd h (by first | decide | (rw [e1]; decide))); intro yy; clear yy) | decide | omega) | (with_reducible refine frc_bytesL (by first | omega | decide) ?_) | (with_reducible refine frc_bytesM (by first | omega | decide) ?_))
    refine ⟨jvS v.l[j] y, ⟨.past (i := 0) rfl (by exact y1), rfl⟩, ?_⟩
    (repeat first | (refine And.intro ?_ ?_; first | exact rfl | ((exact fun h => absurd h (by first | decide)); intro yy; clear yy) | (rotate_left; (exact fun h => absurd h (by first | decide)); intro yy; clear yy) | decide | omega) | (with_reducible refine frc_bytesL (by first | omega | decide) ?_) | (with_reducible refine frc_bytesM (by first | omega | decide) ?_))
    refine call_same (hrec d' rfl W ms v.l[j] y hT y2 (hv3 _ (List.getElem_mem hj)) (hput _ (List.getElem_mem hj))) [0, 1] rfl (by (repeat first | exact trivial | refine ent1 ?_)) (by (repeat first | exact trivial | refine ent1 ?_)) (fun _ _ => trivial) ?_
    rintro y' hs ⟨rfl, rfl⟩
    (repeat first | (refine And.intro ?_ ?_; first | exact rfl | ((exact fun h => absurd h (by first | decide)); intro yy; clear yy) | (rotate_left; (exact fun h => absurd h (by first | decide)); intro yy; clear yy) | decide | omega) | (with_reducible refine frc_bytesL (by first | omega | decide) ?_) | (with_reducible refine frc_bytesM (by first | omega | decide) ?_))
    refine ⟨j + 1, [0, 1], ⟨⟨rfl, rfl, rfl⟩, ?_⟩, hj, by dsimp only; omega⟩
    (repeat first | exact trivial | refine ent1 ?_)
  · (repeat first | (refine And.intro ?_ ?_; first | exact rfl | ((exact fun h => absurd h (by first | decide | (rw [e6]; decide))); intro yy; clear yy) | (rotate_left; (exact fun h => absurd h (by first | decide | (rw [e6]; decide))); intro yy; clear yy) | decide | omega) | (with_reducible refine frc_bytesL (by first | omega | decide) ?_) | (with_reducible refine frc_bytesM (by first | omega | decide) ?_))
    refine call_same (fn_names hT hns hnu hnd hnlen) [0] rfl (by exact And.intro rfl trivial) (by (repeat first | exact trivial | refine ent1 ?_)) (fun _ _ => trivial) ?_
    rintro y hs ⟨rfl, rfl⟩
    by_cases hm0 : xm = 0
    · have em : decide ((xm : Int) = 0) = true := decide_eq_true (by omega)
      (repeat first | (refine And.intro ?_ ?_; first | exact rfl | ((exact fun h => absurd h (by first | decide | (rw [em]; decide))); intro yy; clear yy) | (rotate_left; (exact fun h => absurd h (by first | decide | (rw [em]; decide))); intro yy; clear yy) | decide | omega) | (with_reducible refine frc_bytesL (by first | omega | decide) ?_) | (with_reducible refine frc_bytesM (by first | omega | decide) ?_))
      exact ⟨.a (.c (.int .i64 0)), _, ⟨[0, 1], ⟨rfl, rfl, rfl⟩, by (repeat first | exact trivial | refine ent1 ?_)⟩, rfl, rfl⟩
    have em : decide ((xm : Int) = 0) = false := decide_eq_false (by omega)
    (repeat first | (refine And.intro ?_ ?_; first | exact rfl | ((exact fun h => absurd h (by first | decide | (rw [em]; decide))); intro yy; clear yy) | (rotate_left; (exact fun h => absurd h (by first | decide | (rw [em]; decide))); intro yy; clear yy) | decide | omega) | (with_reducible refine frc_bytesL (by first | omega | decide) ?_) | (with_reducible refine frc_bytesM (by first | omega | decide) ?_))
    refine call_same (fn_nests v.k) [] rfl (by exact And.intro rfl trivial) trivial (fun _ _ => trivial) ?_
    rintro y hs ⟨rfl, rfl⟩
    (repeat first | (refine And.intro ?_ ?_; first | exact rfl | ((exact fun h => absurd h (by first | decide | (rw [en]; decide))); intro yy; clear yy) | (rotate_left; (exact fun h => absurd h (by first | decide | (rw [en]; decide))); intro yy; clear yy) | decide | omega) | (with_reducible refine frc_bytesL (by first | omega | decide) ?_) | (with_reducible refine frc_bytesM (by first | omega | decide) ?_))
    refine .inl ⟨Nat, fun j => ⟨[.a (.c (.p 1 0 0)), .any, .a (.c (.int .i64 ((((depth + 1 : Nat)) : Int)))), .any, .any, .any, .a (.c (.int .i64 (0))), .any, .any, .any, .any, .any, .any, .any, .any, .any, .any, .any, .any, .any, .any, .any, .any, .any, .any, .any, .any, .any, .any, .any, .any, .any, .any, .any, .any, .any, .any, .any, .any, .any, .any, .any, .any, .any, .any, .any, .any, .any, .any, .any, .any, .any, .any, .any, .any, .any, .any, .any, .any, .any, .any, .any, .any, .any, .any, .any, .any, .any, .any, .any, .any, .any, .any, .any, .any, .any, .any, .any, .any, .any, .any, .any, .a (.c (.slc xa xm xc)), .a (.c (.int .i64 (xm))), .a (.c (.int .i64 (((j : Nat) : Int)))), .any, .any, .any, .any, .any, .any, .any, .any, .any, .any, .any], [[.past W ms], [.one (.slc none 0 0)]]⟩,
      fun j => j ≤ v.l.length, fun j => v.l.length - j, ⟨0, [0, 1], ⟨⟨rfl, rfl, rfl⟩, ?_⟩, Nat.zero_le _⟩, fun j hj0 => ?_⟩
    · (repeat first | exact trivial | refine ent1 ?_)
    by_cases hj : j < v.l.length
    rotate_left
    · have e1 : decide ((j : Int) < (xm : Int)) = false := decide_eq_false (by omega)
      (repeat first | (refine And.intro ?_ ?_; first | exact rfl | ((exact fun h => absurd h (by first | decide | (rw [e1]; decide))); intro yy; clear yy) | (rotate_left; (exact fun h => absurd h (by first | decide | (rw [e1]; decide))); intro yy; clear yy) | decide | omega) | (with_reducible refine frc_bytesL (by first | omega | decide) ?_) | (with_reducible refine frc_bytesM (by first | omega | decide) ?_))
      exact ⟨.a (.c (.int .i64 0)), _, ⟨[0, 1], ⟨rfl, rfl, rfl⟩, by (repeat first | exact trivial | refine ent1 ?_)⟩, rfl, rfl⟩
    have e1 : decide ((j : Int) < (xm : Int)) = true := decide_eq_true (by omega)
    obtain ⟨A, rfl⟩ : ∃ A, xa = some A := by
      cases xa with
      | none => exact absurd (g4 rfl) (by omega)
      | some A => exact ⟨A, rfl⟩
    obtain ⟨y, y1, y2⟩ := (g5 A rfl (by omega)).2 j v.l[j] (List.getElem?_eq_getElem hj)
    (repeat first | (refine And.intro ?_ ?_; first | exact rfl | ((exact fun h => absurd h (by first | decide | (rw [e1]; decide))); intro yy; clear yy) | (rotate_left; (exact fun h => absurd h (by first | decide | (rw [e1]; decide))); intro yy; clear yy) | decide | omega) | (with_reducible refine frc_bytesL (by first | omega | decide) ?_) | (with_reducible refine frc_bytesM (by first | omega | decide) ?_))
    refine ⟨jvS v.l[j] y, ⟨.past (i := 0) rfl (by exact y1), rfl⟩, ?_⟩
    (repeat first | (refine And.intro ?_ ?_; first | exact rfl | ((exact fun h => absurd h (by first | decide)); intro yy; clear yy) | (rotate_left; (exact fun h => absurd h (by first | decide)); intro yy; clear yy) | decide | omega) | (with_reducible refine frc_bytesL (by first | omega | decide) ?_) | (with_reducible refine frc_bytesM (by first | omega | decide) ?_))
    refine call_same (hrec d' rfl W ms v.l[j] y hT y2 (hv3 _ (List.getElem_mem hj)) (hput _ (List.getElem_mem hj))) [0, 1] rfl (by (repeat first | exact trivial | refine ent1 ?_)) (by (repeat first | exact trivial | refine ent1 ?_)) (fun _ _ => trivial) ?_
    rintro y' hs ⟨rfl, rfl⟩
    (repeat first | (refine And.intro ?_ ?_; first | exact rfl | ((exact fun h => absurd h (by first | decide)); intro yy; clear yy) | (rotate_left; (exact fun h => absurd h (by first | decide)); intro yy; clear yy) | decide | omega) | (with_reducible refine frc_bytesL (by first | omega | decide) ?_) | (with_reducible refine frc_bytesM (by first | omega | decide) ?_))
    refine ⟨j + 1, [0, 1], ⟨⟨rfl, rfl, rfl⟩, ?_⟩, hj, by dsimp only; omega⟩
    (repeat first | exact trivial | refine ent1 ?_)
end Sx
end Go.Proofs.YtnehmcpkeamghaaDoor
end

section
/-
  Check and Print of a value that was read. No condition.
-/
namespace Go.Proofs.YtnehmcpkeamghaaDoor
set_option linter.unusedVariables false
namespace Sx
open Go.RowKit Sha Vi Js

theorem fn_chk : ∀ (d depth : Nat), depth + d ≤ 8 → ChkC d depth
  | 0, depth, h => fn_chk1 0 depth h (fun d' e => by cases e)
  | d + 1, depth, h => fn_chk1 (d + 1) depth h (fun d' e => by
    injection e with e
    subst e
    exact fn_chk d (depth + 1) (by omega))
set_option maxRecDepth 20000 in
theorem fn_check {d : Nat} (hd : d ≤ 8) {W : World} {ms : List Nat} {v : JT} {x : JC} (hT : Tabs W ms) (hx : TAt W ms d v x) (hn : norm d v) (hl : (put d v).length ≤ 70368744177664) :
    FnR Tryd.prog tds 20 1 [[.past W ms]] [.agg (jvS v x)] (fun _ => True) (fun y hs => y = .a (.c (.int .i64 0)) ∧ hs = [[.past W ms]]) := by
  refine fn_of_body tds_ok follows_ Tryd.func20 rfl (t := .a (.agg (jvS v x)) :: anys (Tryd.f20.ntmps - 1)) rfl (fun w r0 hr0 _ => ?_)
  obtain ⟨x0, rfl⟩ := len1' hr0
  (repeat first | (refine And.intro ?_ ?_; first | exact rfl | ((exact fun h => absurd h (by first | decide)); intro yy; clear yy) | (rotate_left; (exact fun h => absurd h (by first | decide)); intro yy; clear yy) | decide | omega) | (with_reducible refine frc_bytesL (by first | omega | decide) ?_) | (with_reducible refine frc_bytesM (by first | omega | decide) ?_))
  refine call_same (fn_chk d 0 (by omega) W ms v x hT hx hn hl) [0, 2] rfl (by (repeat first | exact trivial | refine ent1 ?_)) (by (repeat first | exact trivial | refine ent1 ?_)) (fun _ _ => trivial) ?_
  rintro y hs ⟨rfl, rfl⟩
  exact ⟨.a (.c (.int .i64 0)), _, ⟨[0], ⟨rfl, rfl, rfl⟩, by (repeat first | exact trivial | refine ent1 ?_)⟩, rfl, rfl⟩
set_option maxRecDepth 20000 in
theorem fn_print {d : Nat} (hd : d ≤ 8) {W : World} {ms : List Nat} {v : JT} {x : JC} (hT : Tabs W ms) (hx : TAt W ms d v x) (hn : norm d v) (hl : (put d v).length ≤ 70368744177664) :
    FnR Tryd.prog tds 19 1 [[.past W ms]] [.agg (jvS v x)] (fun _ => True) (fun y hs => y = .tup [.c (.str (U8 (put d v))), .c (.int .i64 0)] ∧ hs = [[.past W ms]]) := by
  refine fn_of_body tds_ok follows_ Tryd.func19 rfl (t := .a (.agg (jvS v x)) :: anys (Tryd.f19.ntmps - 1)) rfl (fun w r0 hr0 _ => ?_)
  obtain ⟨x0, rfl⟩ := len1' hr0
  (repeat first | (refine And.intro ?_ ?_; first | exact rfl | ((exact fun h => absurd h (by first | decide)); intro yy; clear yy) | (rotate_left; (exact fun h => absurd h (by first | decide)); intro yy; clear yy) | decide | omega) | (with_reducible refine frc_bytesL (by first | omega | decide) ?_) | (with_reducible refine frc_bytesM (by first | omega | decide) ?_))
  refine call_same (fn_check hd hT hx hn hl) [0] rfl (by (repeat first | exact trivial | refine ent1 ?_)) (by (repeat first | exact trivial | refine ent1 ?_)) (fun _ _ => trivial) ?_
  rintro y hs ⟨rfl, rfl⟩
  (repeat first | (refine And.intro ?_ ?_; first | exact rfl | ((exact fun h => absurd h (by first | decide)); intro yy; clear yy) | (rotate_left; (exact fun h => absurd h (by first | decide)); intro yy; clear yy) | decide | omega) | (with_reducible refine frc_bytesL (by first | omega | decide) ?_) | (with_reducible refine frc_bytesM (by first | omega | decide) ?_))
  refine call_same (fn_putN d hT hx hn hl) [0] rfl (by (repeat first | exact trivial | refine ent1 ?_)) (by (repeat first | exact trivial | refine ent1 ?_)) (fun _ _ => trivial) ?_
  rintro y hs ⟨c', hc', rfl, rfl⟩
  (repeat first | (refine And.intro ?_ ?_; first | exact rfl | ((exact fun h => absurd h (by first | decide)); intro yy; clear yy) | (rotate_left; (exact fun h => absurd h (by first | decide)); intro yy; clear yy) | decide | omega) | (with_reducible refine frc_bytesL (by first | omega | decide) ?_) | (with_reducible refine frc_bytesM (by first | omega | decide) ?_))
  refine And.intro (by simp only [scale]; omega) ?_
  refine ⟨U8 (put d v), ⟨U8_len _, fun q hq => by show SC.mp _ (bytesF (put d v).length (L (put d v)) (q + 0)) = _; rw [Nat.add_zero, bytesF_lt hq, U8_get _ q hq]; rfl⟩, ?_⟩
  exact ⟨.tup [.c (.str (U8 (put d v))), .c (.int .i64 0)], _, ⟨[0], ⟨rfl, rfl, rfl⟩, by (repeat first | exact trivial | refine ent1 ?_)⟩, rfl, rfl⟩
end Sx
end Go.Proofs.YtnehmcpkeamghaaDoor
end

section
/-
  The same value, twice. No condition.
-/
namespace Go.Proofs.YtnehmcpkeamghaaDoor
set_option linter.unusedVariables false
namespace Sx
open Go.RowKit Sha Vi Js

theorem StAt.elt {W : World} {ms : List Nat} {a : Option Addr} {m c : Nat} {ns : List Bs} (h : StAt W ms a m c (ns.map U8)) {j : Nat} (hj : j < ns.length) : ∃ A, a = some A ∧ ImAt W ms (A.add (j * 1)) [.str (U8 ns[j])] := by
  have h1 := h.len
  simp only [List.length_map] at h1
  have h2 := h.le
  cases a with
  | none => exact absurd (h.nil rfl) (by omega)
  | some A => exact ⟨A, rfl, by rw [Nat.mul_one]; exact (h.im A rfl (by omega)).one (by simp [hj])⟩
set_option maxRecDepth 20000 in
set_option maxHeartbeats 8000000 in
theorem fn_eqNs {W : World} {ms : List Nat} {a b : Option Addr} {m c p q : Nat} {ns : List Bs} (h : StAt W ms a m c (ns.map U8)) (k : StAt W ms b p q (ns.map U8)) :
    FnR Tryd.prog tds 60 1 [[.past W ms]] [.c (.slc a m c), .c (.slc b p q)] (fun _ => True) (fun y hs => y = .a (.c (.bool true)) ∧ hs = [[.past W ms]]) := by
  refine fn_of_body tds_ok follows_ Tryd.func60 rfl (t := .a (.c (.slc a m c)) :: .a (.c (.slc b p q)) :: anys (Tryd.f60.ntmps - 2)) rfl (fun w r0 hr0 _ => ?_)
  obtain ⟨x0, rfl⟩ := len1' hr0
  have hm : ns.length = m := by have h1 := h.len; simp only [List.length_map] at h1; omega
  have hp : ns.length = p := by have h1 := k.len; simp only [List.length_map] at h1; omega
  have hcap := h.cap
  have e0 : decide ((m : Int) ≠ (p : Int)) = false := decide_eq_false (not_not_intro (by omega))
  (repeat first | (refine And.intro ?_ ?_; first | exact rfl | ((exact fun h => absurd h (by first | decide | (rw [e0]; decide))); intro yy; clear yy) | (rotate_left; (exact fun h => absurd h (by first | decide | (rw [e0]; decide))); intro yy; clear yy) | decide | omega) | (with_reducible refine frc_bytesL (by first | omega | decide) ?_) | (with_reducible refine frc_bytesM (by first | omega | decide) ?_))
  refine .inl ⟨Nat, fun j => ⟨[.a (.c (.slc a m c)), .a (.c (.slc b p q)), .any, .any, .a (.c (.bool (false))), .any, .any, .any, .any, .any, .any, .any, .a (.c (.int .i64 (m))), .a (.c (.int .i64 (((j : Nat) : Int)))), .any, .any, .any, .any, .any, .any, .any, .any, .any, .any, .any, .any], [[.past W ms]]⟩,
    fun j => j ≤ ns.length, fun j => ns.length - j, ⟨0, [0], ⟨⟨rfl, rfl, rfl⟩, by (repeat first | exact trivial | refine ent1 ?_)⟩, Nat.zero_le _⟩, fun j hj0 => ?_⟩
  by_cases hj : j < ns.length
  rotate_left
  · have e1 : decide ((j : Int) < (m : Int)) = false := decide_eq_false (by omega)
    (repeat first | (refine And.intro ?_ ?_; first | exact rfl | ((exact fun h => absurd h (by first | decide | (rw [e1]; decide))); intro yy; clear yy) | (rotate_left; (exact fun h => absurd h (by first | decide | (rw [e1]; decide))); intro yy; clear yy) | decide | omega) | (with_reducible refine frc_bytesL (by first | omega | decide) ?_) | (with_reducible refine frc_bytesM (by first | omega | decide) ?_))
    exact ⟨.a (.c (.bool true)), _, ⟨[0], ⟨rfl, rfl, rfl⟩, by (repeat first | exact trivial | refine ent1 ?_)⟩, rfl, rfl⟩
  have e1 : decide ((j : Int) < (m : Int)) = true := decide_eq_true (by omega)
  obtain ⟨A, rfl, h2⟩ := h.elt hj
  obtain ⟨B, rfl, k2⟩ := k.elt hj
  (repeat first | (refine And.intro ?_ ?_; first | exact rfl | ((exact fun h => absurd h (by first | decide | (rw [e1]; decide))); intro yy; clear yy) | (rotate_left; (exact fun h => absurd h (by first | decide | (rw [e1]; decide))); intro yy; clear yy) | decide | omega) | (with_reducible refine frc_bytesL (by first | omega | decide) ?_) | (with_reducible refine frc_bytesM (by first | omega | decide) ?_))
  refine ⟨none, [], [(0, true), (1, true), (2, true), (3, true), (4, true), (5, true), (6, true), (7, true), (8, true)], [], by kernel_rfl, ?_⟩
  (repeat first | (refine And.intro ?_ ?_; first | exact rfl | ((exact fun h => absurd h (by first | decide)); intro yy; clear yy) | (rotate_left; (exact fun h => absurd h (by first | decide)); intro yy; clear yy) | decide | omega) | (with_reducible refine frc_bytesL (by first | omega | decide) ?_) | (with_reducible refine frc_bytesM (by first | omega | decide) ?_))
  refine ⟨[.one (.str (U8 ns[j]))], ⟨.past (i := 0) rfl (by exact h2), rfl⟩, ?_⟩
  (repeat first | (refine And.intro ?_ ?_; first | exact rfl | ((exact fun h => absurd h (by first | decide)); intro yy; clear yy) | (rotate_left; (exact fun h => absurd h (by first | decide)); intro yy; clear yy) | decide | omega) | (with_reducible refine frc_bytesL (by first | omega | decide) ?_) | (with_reducible refine frc_bytesM (by first | omega | decide) ?_))
  refine ⟨[.one (.str (U8 ns[j]))], ⟨.past (i := 0) rfl (by exact k2), rfl⟩, ?_⟩
  have e3 : (!decide (U8 ns[j] = U8 ns[j])) = false := by simp
  (repeat first | (refine And.intro ?_ ?_; first | exact rfl | ((exact fun h => absurd h (by first | decide | (rw [e3]; decide))); intro yy; clear yy) | (rotate_left; (exact fun h => absurd h (by first | decide | (rw [e3]; decide))); intro yy; clear yy) | decide | omega) | (with_reducible refine frc_bytesL (by first | omega | decide) ?_) | (with_reducible refine frc_bytesM (by first | omega | decide) ?_))
  refine ⟨j + 1, [0], ⟨⟨rfl, rfl, rfl⟩, by (repeat first | exact trivial | refine ent1 ?_)⟩, hj, by dsimp only; omega⟩
theorem Unm.zero {W : World} {ms : List Nat} {a : Addr} (h : Unm W ms a) : Unm W ms (a.add 0) := by
  obtain ⟨B, f, s⟩ := a
  have h0 := h.1
  simp only at h0
  subst h0
  exact h
/-- What is told of a value that is there twice. -/
def SamC (d depth : Nat) : Prop := ∀ (W : World) (ms : List Nat) (v : JT) (x x' : JC), TAt W ms d v x → TAt W ms d v x' →
  FnR Tryd.prog tds 44 1 [[.past W ms], [.one (.slc none 0 0)]] [.c (.p 1 0 0), .agg (jvS v x), .agg (jvS v x'), .c (.int .i64 (depth : Int))] (fun _ => True) (fun y hs => y = .a (.c (.bool true)) ∧ hs = [[.past W ms], [.one (.slc none 0 0)]])
set_option maxRecDepth 20000 in
set_option maxHeartbeats 16000000 in
theorem fn_same1 (d depth : Nat) (hdd : depth + d ≤ 8) (hrec : ∀ d', d = d' + 1 → SamC d' (depth + 1)) : SamC d depth := by
  intro W ms v x x' hx hx'
  refine fn_of_body tds_ok follows_ Tryd.func44 rfl (t := .a (.c (.p 1 0 0)) :: .a (.agg (jvS v x)) :: .a (.agg (jvS v x')) :: .a (.c (.int .i64 (depth : Int))) :: anys (Tryd.f44.ntmps - 4)) rfl (fun w r0 hr0 _ => ?_)
  obtain ⟨x0, x1, rfl⟩ := len2' hr0
  have hl := hx.len
  have hl' := hx'.len
  have hns := hx.ns
  have hns' := hx'.ns
  have f0 : decide (v.k ≠ v.k) = false := decide_eq_false (not_not_intro rfl)
  have f1 : decide (v.n ≠ v.n) = false := decide_eq_false (not_not_intro rfl)
  have f2 : (!decide (U8 v.s = U8 v.s)) = false := by simp
  have f4 : decide ((x.m : Int) ≠ (x'.m : Int)) = false := decide_eq_false (not_not_intro (by omega))
  have hm9 : x.m ≤ 9223372036854775807 := by
    cases d with
    | zero => rw [hx.2.1]; exact Nat.zero_le _
    | succ d => exact hx.1.2.2.1
  have f9 : decide ((9 : Int) ≤ (depth : Int)) = false := decide_eq_false (by omega)
  by_cases k3 : v.k = 3#8
  · have e3 : decide (v.k = 3#8) = true := decide_eq_true k3
    have e4 : decide (v.k = 4#8) = false := decide_eq_false (by rw [k3]; decide)
    (repeat first | (refine And.intro ?_ ?_; first | exact rfl | ((exact fun h => absurd h (by first | decide | (rw [f0]; decide) | (rw [e3]; decide) | (rw [f1]; decide) | (rw [e4]; decide) | (rw [f4]; decide))); intro yy; clear yy) | (rotate_left; (exact fun h => absurd h (by first | decide | (rw [f0]; decide) | (rw [e3]; decide) | (rw [f1]; decide) | (rw [e4]; decide) | (rw [f4]; decide))); intro yy; clear yy) | decide | omega) | (with_reducible refine frc_bytesL (by first | omega | decide) ?_) | (with_reducible refine frc_bytesM (by first | omega | decide) ?_))
    (repeat first | (refine And.intro ?_ ?_; first | exact rfl | ((exact fun h => absurd h (by first | decide | (rw [f0]; decide) | (rw [e3]; decide) | (rw [f1]; decide) | (rw [e4]; decide) | (rw [f4]; decide))); intro yy; clear yy) | (rotate_left; (exact fun h => absurd h (by first | decide | (rw [f0]; decide) | (rw [e3]; decide) | (rw [f1]; decide) | (rw [e4]; decide) | (rw [f4]; decide))); intro yy; clear yy) | decide | omega) | (with_reducible refine frc_bytesL (by first | omega | decide) ?_) | (with_reducible refine frc_bytesM (by first | omega | decide) ?_))
    refine call_same (fn_eqNs hns hns') [0] rfl (by exact And.intro rfl (And.intro rfl trivial)) (by (repeat first | exact trivial | refine ent1 ?_)) (fun _ _ => trivial) ?_
    rintro y hs ⟨rfl, rfl⟩
    (repeat first | (refine And.intro ?_ ?_; first | exact rfl | ((exact fun h => absurd h (by first | decide)); intro yy; clear yy) | (rotate_left; (exact fun h => absurd h (by first | decide)); intro yy; clear yy) | decide | omega) | (with_reducible refine frc_bytesL (by first | omega | decide) ?_) | (with_reducible refine frc_bytesM (by first | omega | decide) ?_))
    refine ⟨none, [], [(0, true), (1, true), (2, true), (3, true), (4, true), (5, true), (6, true), (7, true), (8, true), (9, true), (10, true), (11, true), (12, true)], [], by kernel_rfl, ?_⟩
    by_cases hm : x.m = 0
    · have em : decide ((x.m : Int) = 0) = true := decide_eq_true (by omega)
      (repeat first | (refine And.intro ?_ ?_; first | exact rfl | ((exact fun h => absurd h (by first | decide | (rw [em]; decide))); intro yy; clear yy) | (rotate_left; (exact fun h => absurd h (by first | decide | (rw [em]; decide))); intro yy; clear yy) | decide | omega) | (with_reducible refine frc_bytesL (by first | omega | decide) ?_) | (with_reducible refine frc_bytesM (by first | omega | decide) ?_))
      (repeat first | (refine And.intro ?_ ?_; first | exact rfl | ((exact fun h => absurd h (by first | decide | (rw [em]; decide))); intro yy; clear yy) | (rotate_left; (exact fun h => absurd h (by first | decide | (rw [em]; decide))); intro yy; clear yy) | decide | omega) | (with_reducible refine frc_bytesL (by first | omega | decide) ?_) | (with_reducible refine frc_bytesM (by first | omega | decide) ?_))
      exact ⟨.a (.c (.bool true)), _, ⟨[0, 1], ⟨rfl, rfl, rfl⟩, by (repeat first | exact trivial | refine ent1 ?_)⟩, rfl, rfl⟩
    have em : decide ((x.m : Int) = 0) = false := decide_eq_false (by omega)
    obtain ⟨d', rfl⟩ : ∃ d', d = d' + 1 := by
      cases d with
      | zero => exact absurd hx.2.1 hm
      | succ d => exact ⟨d, rfl⟩
    obtain ⟨xa, xm, xc, xb, xp, xq⟩ := x
    obtain ⟨ya, ym, yc, yb, yp, yq⟩ := x'
    obtain ⟨⟨g1, g2, g3, g4, g5⟩, hns0⟩ := hx
    obtain ⟨⟨i1, i2, i3, i4, i5⟩, ins0⟩ := hx'
    dsimp only at *
    obtain ⟨A, rfl⟩ : ∃ A, xa = some A := by
      cases xa with
      | none => exact absurd (g4 rfl) (by omega)
      | some A => exact ⟨A, rfl⟩
    obtain ⟨B, rfl⟩ : ∃ B, ya = some B := by
      cases ya with
      | none => exact absurd (i4 rfl) (by omega)
      | some A => exact ⟨A, rfl⟩
    (repeat first | (refine And.intro ?_ ?_; first | exact rfl | ((exact fun h => absurd h (by first | decide | (rw [em]; decide))); intro yy; clear yy) | (rotate_left; (exact fun h => absurd h (by first | decide | (rw [em]; decide))); intro yy; clear yy) | decide | omega) | (with_reducible refine frc_bytesL (by first | omega | decide) ?_) | (with_reducible refine frc_bytesM (by first | omega | decide) ?_))
    refine And.intro (show (0 : Int) ≤ 0 ∧ (0 : Int) < (xm : Int) by omega) ?_
    (repeat first | (refine And.intro ?_ ?_; first | exact rfl | ((exact fun h => absurd h (by first | decide | (rw [em]; decide))); intro yy; clear yy) | (rotate_left; (exact fun h => absurd h (by first | decide | (rw [em]; decide))); intro yy; clear yy) | decide | omega) | (with_reducible refine frc_bytesL (by first | omega | decide) ?_) | (with_reducible refine frc_bytesM (by first | omega | decide) ?_))
    refine And.intro (show (0 : Int) ≤ 0 ∧ (0 : Int) < (ym : Int) by omega) ?_
    (repeat first | (refine And.intro ?_ ?_; first | exact rfl | ((exact fun h => absurd h (by first | decide | (rw [em]; decide))); intro yy; clear yy) | (rotate_left; (exact fun h => absurd h (by first | decide | (rw [em]; decide))); intro yy; clear yy) | decide | omega) | (with_reducible refine frc_bytesL (by first | omega | decide) ?_) | (with_reducible refine frc_bytesM (by first | omega | decide) ?_))
    refine And.intro (fun _ => ?_) (fun _ => And.intro ⟨0, W, ms, rfl, (g5 A rfl (by omega)).1.zero, (i5 B rfl (by omega)).1.zero⟩ ?_)
    · (repeat first | (refine And.intro ?_ ?_; first | exact rfl | ((exact fun h => absurd h (by first | decide | (rw [em]; decide))); intro yy; clear yy) | (rotate_left; (exact fun h => absurd h (by first | decide | (rw [em]; decide))); intro yy; clear yy) | decide | omega) | (with_reducible refine frc_bytesL (by first | omega | decide) ?_) | (with_reducible refine frc_bytesM (by first | omega | decide) ?_))
      (repeat first | (refine And.intro ?_ ?_; first | exact rfl | ((exact fun h => absurd h (by first | decide | (rw [em]; decide))); intro yy; clear yy) | (rotate_left; (exact fun h => absurd h (by first | decide | (rw [em]; decide))); intro yy; clear yy) | decide | omega) | (with_reducible refine frc_bytesL (by first | omega | decide) ?_) | (with_reducible refine frc_bytesM (by first | omega | decide) ?_))
      exact ⟨.a (.c (.bool true)), _, ⟨[0, 1], ⟨rfl, rfl, rfl⟩, by (repeat first | exact trivial | refine ent1 ?_)⟩, rfl, rfl⟩
    (repeat first | (refine And.intro ?_ ?_; first | exact rfl | ((exact fun h => absurd h (by first | decide | (rw [em]; decide) | (rw [f9]; decide))); intro yy; clear yy) | (rotate_left; (exact fun h => absurd h (by first | decide | (rw [em]; decide) | (rw [f9]; decide))); intro yy; clear yy) | decide | omega) | (with_reducible refine frc_bytesL (by first | omega | decide) ?_) | (with_reducible refine frc_bytesM (by first | omega | decide) ?_))
    (repeat first | (refine And.intro ?_ ?_; first | exact rfl | ((exact fun h => absurd h (by first | decide | (rw [em]; decide) | (rw [f9]; decide))); intro yy; clear yy) | (rotate_left; (exact fun h => absurd h (by first | decide | (rw [em]; decide) | (rw [f9]; decide))); intro yy; clear yy) | decide | omega) | (with_reducible refine frc_bytesL (by first | omega | decide) ?_) | (with_reducible refine frc_bytesM (by first | omega | decide) ?_))
    refine .inl ⟨Nat, fun j => ⟨[.a (.c (.p 1 0 0)), .any, .any, .a (.c (.int .i64 (depth))), .any, .a (.c (.p 2 0 0)), .a (.c (.p 3 0 0)), .any, .a (.c (.bool (false))), .any, .any, .any, .any, .any, .any, .any, .any, .any, .any, .any, .any, .any, .any, .any, .any, .any, .any, .any, .any, .any, .any, .any, .any, .any, .any, .any, .any, .any, .any, .any, .any, .any, .any, .any, .any, .any, .any, .any, .any, .any, .any, .any, .any, .any, .any, .any, .any, .any, .any, .any, .any, .any, .any, .any, .any, .any, .any, .any, .any, .any, .any, .any, .any, .any, .any, .any, .any, .any, .any, .any, .any, .any, .any, .any, .any, .any, .any, .any, .any, .any, .any, .any, .any, .any, .any, .any, .any, .any, .a (.c (.int .i64 (xm))), .a (.c (.int .i64 (((j : Nat) : Int)))), .any, .any, .any, .any, .any, .any, .any, .any, .any, .any, .any, .any, .any, .any, .any, .any, .any, .any], [[.past W ms], [.one (.slc none 0 0)], jvS v ⟨some A, xm, xc, xb, xp, xq⟩, jvS v ⟨some B, ym, yc, yb, yp, yq⟩]⟩,
      fun j => j ≤ v.l.length, fun j => v.l.length - j, ⟨0, [0, 1, 2, 3], ⟨⟨rfl, rfl, rfl⟩, ?_⟩, Nat.zero_le _⟩, fun j hj0 => ?_⟩
    · (repeat first | exact trivial | refine ent1 ?_)
    by_cases hj : j < v.l.length
    rotate_left
    · have e1 : decide ((j : Int) < (xm : Int)) = false := decide_eq_false (by omega)
      (repeat first | (refine And.intro ?_ ?_; first | exact rfl | ((exact fun h => absurd h (by first | decide | (rw [e1]; decide))); intro yy; clear yy) | (rotate_left; (exact fun h => absurd h (by first | decide | (rw [e1]; decide))); intro yy; clear yy) | decide | omega) | (with_reducible refine frc_bytesL (by first | omega | decide) ?_) | (with_reducible refine frc_bytesM (by first | omega | decide) ?_))
      exact ⟨.a (.c (.bool true)), _, ⟨[0, 1], ⟨rfl, rfl, rfl⟩, by (repeat first | exact trivial | refine ent1 ?_)⟩, rfl, rfl⟩
    have e1 : decide ((j : Int) < (xm : Int)) = true := decide_eq_true (by omega)
    obtain ⟨y, y1, y2⟩ := (g5 A rfl (by omega)).2 j v.l[j] (List.getElem?_eq_getElem hj)
    obtain ⟨y', y1', y2'⟩ := (i5 B rfl (by omega)).2 j v.l[j] (List.getElem?_eq_getElem hj)
    (repeat first | (refine And.intro ?_ ?_; first | exact rfl | ((exact fun h => absurd h (by first | decide | (rw [e1]; decide))); intro yy; clear yy) | (rotate_left; (exact fun h => absurd h (by first | decide | (rw [e1]; decide))); intro yy; clear yy) | decide | omega) | (with_reducible refine frc_bytesL (by first | omega | decide) ?_) | (with_reducible refine frc_bytesM (by first | omega | decide) ?_))
    refine ⟨some [0, 2, 3], [], [(0, true), (1, true), (2, true), (3, true), (4, true), (5, true), (6, true), (7, true), (8, true), (9, true), (10, true), (11, true), (12, true), (13, false), (14, true)], [], by kernel_rfl, ?_⟩
    (repeat first | (refine And.intro ?_ ?_; first | exact rfl | ((exact fun h => absurd h (by first | decide)); intro yy; clear yy) | (rotate_left; (exact fun h => absurd h (by first | decide)); intro yy; clear yy) | decide | omega) | (with_reducible refine frc_bytesL (by first | omega | decide) ?_) | (with_reducible refine frc_bytesM (by first | omega | decide) ?_))
    refine And.intro (show (0 : Int) ≤ (j : Int) ∧ (j : Int) < (xm : Int) by omega) ?_
    refine ⟨jvS v.l[j] y, ⟨.past (i := 0) rfl (by exact y1), rfl⟩, ?_⟩
    (repeat first | (refine And.intro ?_ ?_; first | exact rfl | ((exact fun h => absurd h (by first | decide)); intro yy; clear yy) | (rotate_left; (exact fun h => absurd h (by first | decide)); intro yy; clear yy) | decide | omega) | (with_reducible refine frc_bytesL (by first | omega | decide) ?_) | (with_reducible refine frc_bytesM (by first | omega | decide) ?_))
    refine And.intro (show (0 : Int) ≤ (j : Int) ∧ (j : Int) < (ym : Int) by omega) ?_
    refine ⟨jvS v.l[j] y', ⟨.past (i := 0) rfl (by exact y1'), rfl⟩, ?_⟩
    (repeat first | (refine And.intro ?_ ?_; first | exact rfl | ((exact fun h => absurd h (by first | decide)); intro yy; clear yy) | (rotate_left; (exact fun h => absurd h (by first | decide)); intro yy; clear yy) | decide | omega) | (with_reducible refine frc_bytesL (by first | omega | decide) ?_) | (with_reducible refine frc_bytesM (by first | omega | decide) ?_))
    refine call_same (hrec d' rfl W ms v.l[j] y y' y2 y2') [0, 1] rfl (by (repeat first | exact trivial | refine ent1 ?_)) (by (repeat first | exact trivial | refine ent1 ?_)) (fun _ _ => trivial) ?_
    rintro y9 hs ⟨rfl, rfl⟩
    (repeat first | (refine And.intro ?_ ?_; first | exact rfl | ((exact fun h => absurd h (by first | decide)); intro yy; clear yy) | (rotate_left; (exact fun h => absurd h (by first | decide)); intro yy; clear yy) | decide | omega) | (with_reducible refine frc_bytesL (by first | omega | decide) ?_) | (with_reducible refine frc_bytesM (by first | omega | decide) ?_))
    refine ⟨j + 1, [0, 1, 2, 3], ⟨⟨rfl, rfl, rfl⟩, by (repeat first | exact trivial | refine ent1 ?_)⟩, hj, by dsimp only; omega⟩
  have e3 : decide (v.k = 3#8) = false := decide_eq_false k3
  by_cases k4 : v.k = 4#8
  · have e4 : decide (v.k = 4#8) = true := decide_eq_true k4
    (repeat first | (refine And.intro ?_ ?_; first | exact rfl | ((exact fun h => absurd h (by first | decide | (rw [f0]; decide) | (rw [e3]; decide) | (rw [e4]; decide) | (rw [f2]; decide) | (rw [f4]; decide))); intro yy; clear yy) | (rotate_left; (exact fun h => absurd h (by first | decide | (rw [f0]; decide) | (rw [e3]; decide) | (rw [e4]; decide) | (rw [f2]; decide) | (rw [f4]; decide))); intro yy; clear yy) | decide | omega) | (with_reducible refine frc_bytesL (by first | omega | decide) ?_) | (with_reducible refine frc_bytesM (by first | omega | decide) ?_))
    (repeat first | (refine And.intro ?_ ?_; first | exact rfl | ((exact fun h => absurd h (by first | decide | (rw [f0]; decide) | (rw [e3]; decide) | (rw [e4]; decide) | (rw [f2]; decide) | (rw [f4]; decide))); intro yy; clear yy) | (rotate_left; (exact fun h => absurd h (by first | decide | (rw [f0]; decide) | (rw [e3]; decide) | (rw [e4]; decide) | (rw [f2]; decide) | (rw [f4]; decide))); intro yy; clear yy) | decide | omega) | (with_reducible refine frc_bytesL (by first | omega | decide) ?_) | (with_reducible refine frc_bytesM (by first | omega | decide) ?_))
    refine call_same (fn_eqNs hns hns') [0] rfl (by exact And.intro rfl (And.intro rfl trivial)) (by (repeat first | exact trivial | refine ent1 ?_)) (fun _ _ => trivial) ?_
    rintro y hs ⟨rfl, rfl⟩
    (repeat first | (refine And.intro ?_ ?_; first | exact rfl | ((exact fun h => absurd h (by first | decide)); intro yy; clear yy) | (rotate_left; (exact fun h => absurd h (by first | decide)); intro yy; clear yy) | decide | omega) | (with_reducible refine frc_bytesL (by first | omega | decide) ?_) | (with_reducible refine frc_bytesM (by first | omega | decide) ?_))
    refine ⟨none, [], [(0, true), (1, true), (2, true), (3, true), (4, true), (5, true), (6, true), (7, true), (8, true), (9, true), (10, true), (11, true), (12, true)], [], by kernel_rfl, ?_⟩
    by_cases hm : x.m = 0
    · have em : decide ((x.m : Int) = 0) = true := decide_eq_true (by omega)
      (repeat first | (refine And.intro ?_ ?_; first | exact rfl | ((exact fun h => absurd h (by first | decide | (rw [em]; decide))); intro yy; clear yy) | (rotate_left; (exact fun h => absurd h (by first | decide | (rw [em]; decide))); intro yy; clear yy) | decide | omega) | (with_reducible refine frc_bytesL (by first | omega | decide) ?_) | (with_reducible refine frc_bytesM (by first | omega | decide) ?_))
      (repeat first | (refine And.intro ?_ ?_; first | exact rfl | ((exact fun h => absurd h (by first | decide | (rw [em]; decide))); intro yy; clear yy) | (rotate_left; (exact fun h => absurd h (by first | decide | (rw [em]; decide))); intro yy; clear yy) | decide | omega) | (with_reducible refine frc_bytesL (by first | omega | decide) ?_) | (with_reducible refine frc_bytesM (by first | omega | decide) ?_))
      exact ⟨.a (.c (.bool true)), _, ⟨[0, 1], ⟨rfl, rfl, rfl⟩, by (repeat first | exact trivial | refine ent1 ?_)⟩, rfl, rfl⟩
    have em : decide ((x.m : Int) = 0) = false := decide_eq_false (by omega)
    obtain ⟨d', rfl⟩ : ∃ d', d = d' + 1 := by
      cases d with
      | zero => exact absurd hx.2.1 hm
      | succ d => exact ⟨d, rfl⟩
    obtain ⟨xa, xm, xc, xb, xp, xq⟩ := x
    obtain ⟨ya, ym, yc, yb, yp, yq⟩ := x'
    obtain ⟨⟨g1, g2, g3, g4, g5⟩, hns0⟩ := hx
    obtain ⟨⟨i1, i2, i3, i4, i5⟩, ins0⟩ := hx'
    dsimp only at *
    obtain ⟨A, rfl⟩ : ∃ A, xa = some A := by
      cases xa with
      | none => exact absurd (g4 rfl) (by omega)
      | some A => exact ⟨A, rfl⟩
    obtain ⟨B, rfl⟩ : ∃ B, ya = some B := by
      cases ya with
      | none => exact absurd (i4 rfl) (by omega)
      | some A => exact ⟨A, rfl⟩
    (repeat first | (refine And.intro ?_ ?_; first | exact rfl | ((exact fun h => absurd h (by first | decide | (rw [em]; decide))); intro yy; clear yy) | (rotate_left; (exact fun h => absurd h (by first | decide | (rw [em]; decide))); intro yy; clear yy) | decide | omega) | (with_reducible refine frc_bytesL (by first | omega | decide) ?_) | (with_reducible refine frc_bytesM (by first | omega | decide) ?_))
    refine And.intro (show (0 : Int) ≤ 0 ∧ (0 : Int) < (xm : Int) by omega) ?_
    (repeat first | (refine And.intro ?_ ?_; first | exact rfl | ((exact fun h => absurd h (by first | decide | (rw [em]; decide))); intro yy; clear yy) | (rotate_left; (exact fun h => absurd h (by first | decide | (rw [em]; decide))); intro yy; clear yy) | decide | omega) | (with_reducible refine frc_bytesL (by first | omega | decide) ?_) | (with_reducible refine frc_bytesM (by first | omega | decide) ?_))
    refine And.intro (show (0 : Int) ≤ 0 ∧ (0 : Int) < (ym : Int) by omega) ?_
    (repeat first | (refine And.intro ?_ ?_; first | exact rfl | ((exact fun h => absurd h (by first | decide | (rw [em]; decide))); intro yy; clear yy) | (rotate_left; (exact fun h => absurd h (by first | decide | (rw [em]; decide))); intro yy; clear yy) | decide | omega) | (with_reducible refine frc_bytesL (by first | omega | decide) ?_) | (with_reducible refine frc_bytesM (by first | omega | decide) ?_))
    refine And.intro (fun _ => ?_) (fun _ => And.intro ⟨0, W, ms, rfl, (g5 A rfl (by omega)).1.zero, (i5 B rfl (by omega)).1.zero⟩ ?_)
    · (repeat first | (refine And.intro ?_ ?_; first | exact rfl | ((exact fun h => absurd h (by first | decide | (rw [em]; decide))); intro yy; clear yy) | (rotate_left; (exact fun h => absurd h (by first | decide | (rw [em]; decide))); intro yy; clear yy) | decide | omega) | (with_reducible refine frc_bytesL (by first | omega | decide) ?_) | (with_reducible refine frc_bytesM (by first | omega | decide) ?_))
      (repeat first | (refine And.intro ?_ ?_; first | exact rfl | ((exact fun h => absurd h (by first | decide | (rw [em]; decide))); intro yy; clear yy) | (rotate_left; (exact fun h => absurd h (by first | decide | (rw [em]; decide))); intro yy; clear yy) | decide | omega) | (with_reducible refine frc_bytesL (by first | omega | decide) ?_) | (with_reducible refine frc_bytesM (by first | omega | decide) ?_))
      exact ⟨.a (.c (.bool true)), _, ⟨[0, 1], ⟨rfl, rfl, rfl⟩, by (repeat first | exact trivial | refine ent1 ?_)⟩, rfl, rfl⟩
    (repeat first | (refine And.intro ?_ ?_; first | exact rfl | ((exact fun h => absurd h (by first | decide | (rw [em]; decide) | (rw [f9]; decide))); intro yy; clear yy) | (rotate_left; (exact fun h => absurd h (by first | decide | (rw [em]; decide) | (rw [f9]; decide))); intro yy; clear yy) | decide | omega) | (with_reducible refine frc_bytesL (by first | omega | decide) ?_) | (with_reducible refine frc_bytesM (by first | omega | decide) ?_))
    (repeat first | (refine And.intro ?_ ?_; first | exact rfl | ((exact fun h => absurd h (by first | decide | (rw [em]; decide) | (rw [f9]; decide))); intro yy; clear yy) | (rotate_left; (exact fun h => absurd h (by first | decide | (rw [em]; decide) | (rw [f9]; decide))); intro yy; clear yy) | decide | omega) | (with_reducible refine frc_bytesL (by first | omega | decide) ?_) | (with_reducible refine frc_bytesM (by first | omega | decide) ?_))
    refine .inl ⟨Nat, fun j => ⟨[.a (.c (.p 1 0 0)), .any, .any, .a (.c (.int .i64 (depth))), .any, .a (.c (.p 2 0 0)), .a (.c (.p 3 0 0)), .any, .a (.c (.bool (false))), .any, .any, .any, .any, .any, .any, .any, .any, .any, .any, .any, .any, .any, .any, .any, .any, .any, .any, .any, .any, .any, .any, .any, .any, .any, .any, .any, .any, .any, .any, .any, .any, .any, .any, .any, .any, .any, .any, .any, .any, .any, .any, .any, .any, .any, .any, .any, .any, .any, .any, .any, .any, .any, .any, .any, .any, .any, .any, .any, .any, .any, .any, .any, .any, .any, .any, .any, .any, .any, .any, .any, .any, .any, .any, .any, .any, .any, .any, .any, .any, .any, .any, .any, .any, .any, .any, .any, .any, .any, .a (.c (.int .i64 (xm))), .a (.c (.int .i64 (((j : Nat) : Int)))), .any, .any, .any, .any, .any, .any, .any, .any, .any, .any, .any, .any, .any, .any, .any, .any, .any, .any], [[.past W ms], [.one (.slc none 0 0)], jvS v ⟨some A, xm, xc, xb, xp, xq⟩, jvS v ⟨some B, ym, yc, yb, yp, yq⟩]⟩,
      fun j => j ≤ v.l.length, fun j => v.l.length - j, ⟨0, [0, 1, 2, 3], ⟨⟨rfl, rfl, rfl⟩, ?_⟩, Nat.zero_le _⟩, fun j hj0 => ?_⟩
    · (repeat first | exact trivial | refine ent1 ?_)
    by_cases hj : j < v.l.length
    rotate_left
    · have e1 : decide ((j : Int) < (xm : Int)) = false := decide_eq_false (by omega)
      (repeat first | (refine And.intro ?_ ?_; first | exact rfl | ((exact fun h => absurd h (by first | decide | (rw [e1]; decide))); intro yy; clear yy) | (rotate_left; (exact fun h => absurd h (by first | decide | (rw [e1]; decide))); intro yy; clear yy) | decide | omega) | (with_reducible refine frc_bytesL (by first | omega | decide) ?_) | (with_reducible refine frc_bytesM (by first | omega | decide) ?_))
      exact ⟨.a (.c (.bool true)), _, ⟨[0, 1], ⟨rfl, rfl, rfl⟩, by (repeat first | exact trivial | refine ent1 ?_)⟩, rfl, rfl⟩
    have e1 : decide ((j : Int) < (xm : Int)) = true := decide_eq_true (by omega)
    obtain ⟨y, y1, y2⟩ := (g5 A rfl (by omega)).2 j v.l[j] (List.getElem?_eq_getElem hj)
    obtain ⟨y', y1', y2'⟩ := (i5 B rfl (by omega)).2 j v.l[j] (List.getElem?_eq_getElem hj)
    (repeat first | (refine And.intro ?_ ?_; first | exact rfl | ((exact fun h => absurd h (by first | decide | (rw [e1]; decide))); intro yy; clear yy) | (rotate_left; (exact fun h => absurd h (by first | decide | (rw [e1]; decide))); intro yy; clear yy) | decide | omega) | (with_reducible refine frc_bytesL (by first | omega | decide) ?_) | (with_reducible refine frc_bytesM (by first | omega | decide) ?_))
    refine ⟨some [0, 2, 3], [], [(0, true), (1, true), (2, true), (3, true), (4, true), (5, true), (6, true), (7, true), (8, true), (9, true), (10, true), (11, true), (12, true), (13, false), (14, true)], [], by kernel_rfl, ?_⟩
    (repeat first | (refine And.intro ?_ ?_; first | exact rfl | ((exact fun h => absurd h (by first | decide)); intro yy; clear yy) | (rotate_left; (exact fun h => absurd h (by first | decide)); intro yy; clear yy) | decide | omega) | (with_reducible refine frc_bytesL (by first | omega | decide) ?_) | (with_reducible refine frc_bytesM (by first | omega | decide) ?_))
    refine And.intro (show (0 : Int) ≤ (j : Int) ∧ (j : Int) < (xm : Int) by omega) ?_
    refine ⟨jvS v.l[j] y, ⟨.past (i := 0) rfl (by exact y1), rfl⟩, ?_⟩
    (repeat first | (refine And.intro ?_ ?_; first | exact rfl | ((exact fun h => absurd h (by first | decide)); intro yy; clear yy) | (rotate_left; (exact fun h => absurd h (by first | decide)); intro yy; clear yy) | decide | omega) | (with_reducible refine frc_bytesL (by first | omega | decide) ?_) | (with_reducible refine frc_bytesM (by first | omega | decide) ?_))
    refine And.intro (show (0 : Int) ≤ (j : Int) ∧ (j : Int) < (ym : Int) by omega) ?_
    refine ⟨jvS v.l[j] y', ⟨.past (i := 0) rfl (by exact y1'), rfl⟩, ?_⟩
    (repeat first | (refine And.intro ?_ ?_; first | exact rfl | ((exact fun h => absurd h (by first | decide)); intro yy; clear yy) | (rotate_left; (exact fun h => absurd h (by first | decide)); intro yy; clear yy) | decide | omega) | (with_reducible refine frc_bytesL (by first | omega | decide) ?_) | (with_reducible refine frc_bytesM (by first | omega | decide) ?_))
    refine call_same (hrec d' rfl W ms v.l[j] y y' y2 y2') [0, 1] rfl (by (repeat first | exact trivial | refine ent1 ?_)) (by (repeat first | exact trivial | refine ent1 ?_)) (fun _ _ => trivial) ?_
    rintro y9 hs ⟨rfl, rfl⟩
    (repeat first | (refine And.intro ?_ ?_; first | exact rfl | ((exact fun h => absurd h (by first | decide)); intro yy; clear yy) | (rotate_left; (exact fun h => absurd h (by first | decide)); intro yy; clear yy) | decide | omega) | (with_reducible refine frc_bytesL (by first | omega | decide) ?_) | (with_reducible refine frc_bytesM (by first | omega | decide) ?_))
    refine ⟨j + 1, [0, 1, 2, 3], ⟨⟨rfl, rfl, rfl⟩, by (repeat first | exact trivial | refine ent1 ?_)⟩, hj, by dsimp only; omega⟩
  · have e4 : decide (v.k = 4#8) = false := decide_eq_false k4
    (repeat first | (refine And.intro ?_ ?_; first | exact rfl | ((exact fun h => absurd h (by first | decide | (rw [f0]; decide) | (rw [e3]; decide) | (rw [e4]; decide) | (rw [f4]; decide))); intro yy; clear yy) | (rotate_left; (exact fun h => absurd h (by first | decide | (rw [f0]; decide) | (rw [e3]; decide) | (rw [e4]; decide) | (rw [f4]; decide))); intro yy; clear yy) | decide | omega) | (with_reducible refine frc_bytesL (by first | omega | decide) ?_) | (with_reducible refine frc_bytesM (by first | omega | decide) ?_))
    (repeat first | (refine And.intro ?_ ?_; first | exact rfl | ((exact fun h => absurd h (by first | decide | (rw [f0]; decide) | (rw [e3]; decide) | (rw [e4]; decide) | (rw [f4]; decide))); intro yy; clear yy) | (rotate_left; (exact fun h => absurd h (by first | decide | (rw [f0]; decide) | (rw [e3]; decide) | (rw [e4]; decide) | (rw [f4]; decide))); intro yy; clear yy) | decide | omega) | (with_reducible refine frc_bytesL (by first | omega | decide) ?_) | (with_reducible refine frc_bytesM (by first | omega | decide) ?_))
    refine call_same (fn_eqNs hns hns') [0] rfl (by exact And.intro rfl (And.intro rfl trivial)) (by (repeat first | exact trivial | refine ent1 ?_)) (fun _ _ => trivial) ?_
    rintro y hs ⟨rfl, rfl⟩
    (repeat first | (refine And.intro ?_ ?_; first | exact rfl | ((exact fun h => absurd h (by first | decide)); intro yy; clear yy) | (rotate_left; (exact fun h => absurd h (by first | decide)); intro yy; clear yy) | decide | omega) | (with_reducible refine frc_bytesL (by first | omega | decide) ?_) | (with_reducible refine frc_bytesM (by first | omega | decide) ?_))
    refine ⟨none, [], [(0, true), (1, true), (2, true), (3, true), (4, true), (5, true), (6, true), (7, true), (8, true), (9, true), (10, true), (11, true), (12, true)], [], by kernel_rfl, ?_⟩
    by_cases hm : x.m = 0
    · have em : decide ((x.m : Int) = 0) = true := decide_eq_true (by omega)
      (repeat first | (refine And.intro ?_ ?_; first | exact rfl | ((exact fun h => absurd h (by first | decide | (rw [em]; decide))); intro yy; clear yy) | (rotate_left; (exact fun h => absurd h (by first | decide | (rw [em]; decide))); intro yy; clear yy) | decide | omega) | (with_reducible refine frc_bytesL (by first | omega | decide) ?_) | (with_reducible refine frc_bytesM (by first | omega | decide) ?_))
      (repeat first | (refine And.intro ?_ ?_; first | exact rfl | ((exact fun h => absurd h (by first | decide | (rw [em]; decide))); intro yy; clear yy) | (rotate_left; (exact fun h => absurd h (by first | decide | (rw [em]; decide))); intro yy; clear yy) | decide | omega) | (with_reducible refine frc_bytesL (by first | omega | decide) ?_) | (with_reducible refine frc_bytesM (by first | omega | decide) ?_))
      exact ⟨.a (.c (.bool true)), _, ⟨[0, 1], ⟨rfl, rfl, rfl⟩, by (repeat first | exact trivial | refine ent1 ?_)⟩, rfl, rfl⟩
    have em : decide ((x.m : Int) = 0) = false := decide_eq_false (by omega)
    obtain ⟨d', rfl⟩ : ∃ d', d = d' + 1 := by
      cases d with
      | zero => exact absurd hx.2.1 hm
      | succ d => exact ⟨d, rfl⟩
    obtain ⟨xa, xm, xc, xb, xp, xq⟩ := x
    obtain ⟨ya, ym, yc, yb, yp, yq⟩ := x'
    obtain ⟨⟨g1, g2, g3, g4, g5⟩, hns0⟩ := hx
    obtain ⟨⟨i1, i2, i3, i4, i5⟩, ins0⟩ := hx'
    dsimp only at *
    obtain ⟨A, rfl⟩ : ∃ A, xa = some A := by
      cases xa with
      | none => exact absurd (g4 rfl) (by omega)
      | some A => exact ⟨A, rfl⟩
    obtain ⟨B, rfl⟩ : ∃ B, ya = some B := by
      cases ya with
      | none => exact absurd (i4 rfl) (by omega)
      | some A => exact ⟨A, rfl⟩
    (repeat first | (refine And.intro ?_ ?_; first | exact rfl | ((exact fun h => absurd h (by first | decide | (rw [em]; decide))); intro yy; clear yy) | (rotate_left; (exact fun h => absurd h (by first | decide | (rw [em]; decide))); intro yy; clear yy) | decide | omega) | (with_reducible refine frc_bytesL (by first | omega | decide) ?_) | (with_reducible refine frc_bytesM (by first | omega | decide) ?_))
    refine And.intro (show (0 : Int) ≤ 0 ∧ (0 : Int) < (xm : Int) by omega) ?_
    (repeat first | (refine And.intro ?_ ?_; first | exact rfl | ((exact fun h => absurd h (by first | decide | (rw [em]; decide))); intro yy; clear yy) | (rotate_left; (exact fun h => absurd h (by first | decide | (rw [em]; decide))); intro yy; clear yy) | decide | omega) | (with_reducible refine frc_bytesL (by first | omega | decide) ?_) | (with_reducible refine frc_bytesM (by first | omega | decide) ?_))
    refine And.intro (show (0 : Int) ≤ 0 ∧ (0 : Int) < (ym : Int) by omega) ?_
    (repeat first | (refine And.intro ?_ ?_; first | exact rfl | ((exact fun h => absurd h (by first | decide | (rw [em]; decide))); intro yy; clear yy) | (rotate_left; (exact fun h => absurd h (by first | decide | (rw [em]; decide))); intro yy; clear yy) | decide | omega) | (with_reducible refine frc_bytesL (by first | omega | decide) ?_) | (with_reducible refine frc_bytesM (by first | omega | decide) ?_))
    refine And.intro (fun _ => ?_) (fun _ => And.intro ⟨0, W, ms, rfl, (g5 A rfl (by omega)).1.zero, (i5 B rfl (by omega)).1.zero⟩ ?_)
    · (repeat first | (refine And.intro ?_ ?_; first | exact rfl | ((exact fun h => absurd h (by first | decide | (rw [em]; decide))); intro yy; clear yy) | (rotate_left; (exact fun h => absurd h (by first | decide | (rw [em]; decide))); intro yy; clear yy) | decide | omega) | (with_reducible refine frc_bytesL (by first | omega | decide) ?_) | (with_reducible refine frc_bytesM (by first | omega | decide) ?_))
      (repeat first | (refine And.intro ?_ ?_; first | exact rfl | ((exact fun h => absurd h (by first | decide | (rw [em]; decide))); intro yy; clear yy) | (rotate_left; (exact fun h => absurd h (by first | decide | (rw [em]; decide))); intro yy; clear yy) | decide | omega) | (with_reducible refine frc_bytesL (by first | omega | decide) ?_) | (with_reducible refine frc_bytesM (by first | omega | decide) ?_))
      exact ⟨.a (.c (.bool true)), _, ⟨[0, 1], ⟨rfl, rfl, rfl⟩, by (repeat first | exact trivial | refine ent1 ?_)⟩, rfl, rfl⟩
    (repeat first | (refine And.intro ?_ ?_; first | exact rfl | ((exact fun h => absurd h (by first | decide | (rw [em]; decide) | (rw [f9]; decide))); intro yy; clear yy) | (rotate_left; (exact fun h => absurd h (by first | decide | (rw [em]; decide) | (rw [f9]; decide))); intro yy; clear yy) | decide | omega) | (with_reducible refine frc_bytesL (by first | omega | decide) ?_) | (with_reducible refine frc_bytesM (by first | omega | decide) ?_))
    (repeat first | (refine And.intro ?_ ?_; first | exact rfl | ((exact fun h => absurd h (by first | decide | (rw [em]; decide) | (rw [f9]; decide))); intro yy; clear yy) | (rotate_left; (exact fun h => absurd h (by first | decide | (rw [em]; decide) | (rw [f9]; decide))); intro yy; clear yy) | decide | omega) | (with_reducible refine frc_bytesL (by first | omega | decide) ?_) | (with_reducible refine frc_bytesM (by first | omega | decide) ?_))
    refine .inl ⟨Nat, fun j => ⟨[.a (.c (.p 1 0 0)), .any, .any, .a (.c (.int .i64 (depth))), .any, .a (.c (.p 2 0 0)), .a (.c (.p 3 0 0)), .any, .a (.c (.bool (false))), .any, .any, .any, .any, .any, .any, .any, .any, .any, .any, .any, .any, .any, .any, .any, .any, .any, .any, .any, .any, .any, .any, .any, .any, .any, .any, .any, .any, .any, .any, .any, .any, .any, .any, .any, .any, .any, .any, .any, .any, .any, .any, .any, .any, .any, .any, .any, .any, .any, .any, .any, .any, .any, .any, .any, .any, .any, .any, .any, .any, .any, .any, .any, .any, .any, .any, .any, .any, .any, .any, .any, .any, .any, .any, .any, .any, .any, .any, .any, .any, .any, .any, .any, .any, .any, .any, .any, .any, .any, .a (.c (.int .i64 (xm))), .a (.c (.int .i64 (((j : Nat) : Int)))), .any, .any, .any, .any, .any, .any, .any, .any, .any, .any, .any, .any, .any, .any, .any, .any, .any, .any], [[.past W ms], [.one (.slc none 0 0)], jvS v ⟨some A, xm, xc, xb, xp, xq⟩, jvS v ⟨some B, ym, yc, yb, yp, yq⟩]⟩,
      fun j => j ≤ v.l.length, fun j => v.l.length - j, ⟨0, [0, 1, 2, 3], ⟨⟨rfl, rfl, rfl⟩, ?_⟩, Nat.zero_le _⟩, fun j hj0 => ?_⟩
    · (repeat first | exact trivial | refine ent1 ?_)
    by_cases hj : j < v.l.length
    rotate_left
    · have e1 : decide ((j : Int) < (xm : Int)) = false := decide_eq_false (by omega)
      (repeat first | (refine And.intro ?_ ?_; first | exact rfl | ((exact fun h => absurd h (by first | decide | (rw [e1]; decide))); intro yy; clear yy) | (rotate_left; (exact fun h => absurd h (by first | decide | (rw [e1]; decide))); intro yy; clear yy) | decide | omega) | (with_reducible refine frc_bytesL (by first | omega | decide) ?_) | (with_reducible refine frc_bytesM (by first | omega | decide) ?_))
      exact ⟨.a (.c (.bool true)), _, ⟨[0, 1], ⟨rfl, rfl, rfl⟩, by (repeat first | exact trivial | refine ent1 ?_)⟩, rfl, rfl⟩
    have e1 : decide ((j : Int) < (xm : Int)) = true := decide_eq_true (by omega)
    obtain ⟨y, y1, y2⟩ := (g5 A rfl (by omega)).2 j v.l[j] (List.getElem?_eq_getElem hj)
    obtain ⟨y', y1', y2'⟩ := (i5 B rfl (by omega)).2 j v.l[j] (List.getElem?_eq_getElem hj)
    (repeat first | (refine And.intro ?_ ?_; first | exact rfl | ((exact fun h => absurd h (by first | decide | (rw [e1]; decide))); intro yy; clear yy) | (rotate_left; (exact fun h => absurd h (by first | decide | (rw [e1]; decide))); intro yy; clear yy) | decide | omega) | (with_reducible refine frc_bytesL (by first | omega | decide) ?_) | (with_reducible refine frc_bytesM (by first | omega | decide) ?_))
    refine ⟨some [0, 2, 3], [], [(0, true), (1, true), (2, true), (3, true), (4, true), (5, true), (6, true), (7, true), (8, true), (9, true), (10, true), (11, true), (12, true), (13, false), (14, true)], [], by kernel_rfl, ?_⟩
    (repeat first | (refine And.intro ?_ ?_; first | exact rfl | ((exact fun h => absurd h (by first | decide)); intro yy; clear yy) | (rotate_left; (exact fun h => absurd h (by first | decide)); intro yy; clear yy) | decide | omega) | (with_reducible refine frc_bytesL (by first | omega | decide) ?_) | (with_reducible refine frc_bytesM (by first | omega | decide) ?_))
    refine And.intro (show (0 : Int) ≤ (j : Int) ∧ (j : Int) < (xm : Int) by omega) ?_
    refine ⟨jvS v.l[j] y, ⟨.past (i := 0) rfl (by exact y1), rfl⟩, ?_⟩
    (repeat first | (refine And.intro ?_ ?_; first | exact rfl | ((exact fun h => absurd h (by first | decide)); intro yy; clear yy) | (rotate_left; (exact fun h => absurd h (by first | decide)); intro yy; clear yy) | decide | omega) | (with_reducible refine frc_bytesL (by first | omega | decide) ?_) | (with_reducible refine frc_bytesM (by first | omega | decide) ?_))
    refine And.intro (show (0 : Int) ≤ (j : Int) ∧ (j : Int) < (ym : Int) by omega) ?_
    refine ⟨jvS v.l[j] y', ⟨.past (i := 0) rfl (by exact y1'), rfl⟩, ?_⟩
    (repeat first | (refine And.intro ?_ ?_; first | exact rfl | ((exact fun h => absurd h (by first | decide)); intro yy; clear yy) | (rotate_left; (exact fun h => absurd h (by first | decide)); intro yy; clear yy) | decide | omega) | (with_reducible refine frc_bytesL (by first | omega | decide) ?_) | (with_reducible refine frc_bytesM (by first | omega | decide) ?_))
    refine call_same (hrec d' rfl W ms v.l[j] y y' y2 y2') [0, 1] rfl (by (repeat first | exact trivial | refine ent1 ?_)) (by (repeat first | exact trivial | refine ent1 ?_)) (fun _ _ => trivial) ?_
    rintro y9 hs ⟨rfl, rfl⟩
    (repeat first | (refine And.intro ?_ ?_; first | exact rfl | ((exact fun h => absurd h (by first | decide)); intro yy; clear yy) | (rotate_left; (exact fun h => absurd h (by first | decide)); intro yy; clear yy) | decide | omega) | (with_reducible refine frc_bytesL (by first | omega | decide) ?_) | (with_reducible refine frc_bytesM (by first | omega | decide) ?_))
    refine ⟨j + 1, [0, 1, 2, 3], ⟨⟨rfl, rfl, rfl⟩, by (repeat first | exact trivial | refine ent1 ?_)⟩, hj, by dsimp only; omega⟩
theorem fn_same2 : ∀ (d depth : Nat), depth + d ≤ 8 → SamC d depth
  | 0, depth, h => fn_same1 0 depth h (fun d' e => by cases e)
  | d + 1, depth, h => fn_same1 (d + 1) depth h (fun d' e => by
    injection e with e
    subst e
    exact fn_same2 d (depth + 1) (by omega))
set_option maxRecDepth 20000 in
theorem fn_same {d : Nat} (hd : d ≤ 8) {W : World} {ms : List Nat} {v : JT} {x x' : JC} (hx : TAt W ms d v x) (hx' : TAt W ms d v x') :
    FnR Tryd.prog tds 18 1 [[.past W ms]] [.agg (jvS v x), .agg (jvS v x')] (fun _ => True) (fun y hs => y = .a (.c (.bool true)) ∧ hs = [[.past W ms]]) := by
  refine fn_of_body tds_ok follows_ Tryd.func18 rfl (t := .a (.agg (jvS v x)) :: .a (.agg (jvS v x')) :: anys (Tryd.f18.ntmps - 2)) rfl (fun w r0 hr0 _ => ?_)
  obtain ⟨x0, rfl⟩ := len1' hr0
  (repeat first | (refine And.intro ?_ ?_; first | exact rfl | ((exact fun h => absurd h (by first | decide)); intro yy; clear yy) | (rotate_left; (exact fun h => absurd h (by first | decide)); intro yy; clear yy) | decide | omega) | (with_reducible refine frc_bytesL (by first | omega | decide) ?_) | (with_reducible refine frc_bytesM (by first | omega | decide) ?_))
  refine call_same (fn_same2 d 0 (by omega) W ms v x x' hx hx') [0, 3] rfl (by (repeat first | exact trivial | refine ent1 ?_)) (by (repeat first | exact trivial | refine ent1 ?_)) (fun _ _ => trivial) ?_
  rintro y hs ⟨rfl, rfl⟩
  exact ⟨.a (.c (.bool true)), _, ⟨[0], ⟨rfl, rfl, rfl⟩, by (repeat first | exact trivial | refine ent1 ?_)⟩, rfl, rfl⟩
end Sx
end Go.Proofs.YtnehmcpkeamghaaDoor
end

section
/-
  The law of texts is awake. No condition.
-/
namespace Go.Proofs.YtnehmcpkeamghaaDoor
set_option linter.unusedVariables false
namespace Sx
open Go.RowKit Sha Vi Js

def awT : Bs := [123#8, 34#8, 97#8, 34#8, 58#8, 91#8, 49#8, 44#8, 110#8, 117#8, 108#8, 108#8, 93#8, 125#8]
def awV : JT := .mk 6#8 0#64 [] [.mk 5#8 0#64 [] [.mk 3#8 1#64 [] [] [], .mk 0#8 0#64 [] [] []] []] [[97#8]]
theorem awP : parse awT = .ok awV [] := by kernel_rfl
theorem awQ : put 8 awV = awT := by kernel_rfl
/-- What Parse answers, of a text of which it is known. -/
theorem fn_parse_ok {W : World} {ms : List Nat} (hT : Tabs W ms) {s : Bs} (hs : s.length ≤ 4611686018427387904) {v : JT} (h : parse s = .ok v []) : FnR Tryd.prog tds 17 1 [[.past W ms]] [.c (.str (U8 s))] (fun _ => True)
    (fun y hs => ∃ x W' ms', Later W ms W' ms' ∧ TAt W' ms' 8 v x ∧ y = .tup [.agg (jvS v x), .c (.int .i64 0), .c (.int .i64 0)] ∧ hs = [[.past W' ms']]) := by
  refine (fn_parse hT s hs).mono fun y hs hy => ?_
  rcases hy with ⟨v', x, W', ms', p1, p2, p3, rfl, rfl⟩ | ⟨e, k, W', ms', p1, _⟩
  · rw [h] at p1
    injection p1 with p1
    subst p1
    exact ⟨x, W', ms', p2, p3, rfl, rfl⟩
  · rw [h] at p1; cases p1
set_option maxRecDepth 20000 in
set_option maxHeartbeats 4000000 in
theorem fn_jawake {W : World} {ms : List Nat} (hT : Tabs W ms) : FnR Tryd.prog tds 16 1 [[.past W ms]] [] (fun _ => True) (fun y hs => ∃ W' ms', Later W ms W' ms' ∧ y = .a (.c (.bool true)) ∧ hs = [[.past W' ms']]) := by
  refine fn_of_bodyW tds_ok follows_ Tryd.func16 rfl (t := anys (Tryd.f16.ntmps)) rfl (fun w r0 hr0 _ => ?_)
  obtain ⟨x0, rfl⟩ := len1' hr0
  (repeat first | (refine And.intro ?_ ?_; first | exact rfl | ((exact fun h => absurd h (by first | decide)); intro yy; clear yy) | (rotate_left; (exact fun h => absurd h (by first | decide)); intro yy; clear yy) | decide | omega) | (with_reducible refine frc_bytesL (by first | omega | decide) ?_) | (with_reducible refine frc_bytesM (by first | omega | decide) ?_))
  refine call_past (fn_parse_ok hT (s := awT) (by decide) awP) 0 [] rfl rfl (by exact And.intro rfl trivial) (by (repeat first | exact trivial | refine ent1 ?_)) (fun _ _ => trivial) (fun x hs hr => ?_) ?_
  · obtain ⟨x, W', ms', hL, _, _, rfl⟩ := hr
    exact ⟨W', ms', rfl, hL⟩
  rintro y hs ⟨x, W', ms', hL, hx, rfl, rfl⟩
  (repeat first | (refine And.intro ?_ ?_; first | exact rfl | ((exact fun h => absurd h (by first | decide)); intro yy; clear yy) | (rotate_left; (exact fun h => absurd h (by first | decide)); intro yy; clear yy) | decide | omega) | (with_reducible refine frc_bytesL (by first | omega | decide) ?_) | (with_reducible refine frc_bytesM (by first | omega | decide) ?_))
  refine call_same (fn_print (Nat.le_refl _) (hT.later hL) hx (parse_ok awP).1 (by rw [awQ]; decide)) [0] rfl (by (repeat first | exact trivial | refine ent1 ?_)) (by (repeat first | exact trivial | refine ent1 ?_)) (fun _ _ => trivial) ?_
  rintro y hs ⟨rfl, rfl⟩
  rw [awQ]
  (repeat first | (refine And.intro ?_ ?_; first | exact rfl | ((exact fun h => absurd h (by first | decide)); intro yy; clear yy) | (rotate_left; (exact fun h => absurd h (by first | decide)); intro yy; clear yy) | decide | omega) | (with_reducible refine frc_bytesL (by first | omega | decide) ?_) | (with_reducible refine frc_bytesM (by first | omega | decide) ?_))
  exact FinW.of ⟨.a (.c (.bool true)), _, ⟨[0], ⟨rfl, rfl, rfl⟩, by (repeat first | exact trivial | refine ent1 ?_)⟩, W', ms', hL, rfl, rfl⟩
end Sx
end Go.Proofs.YtnehmcpkeamghaaDoor
end

section
/-
  The law JsonErrors. No condition.
-/
namespace Go.Proofs.YtnehmcpkeamghaaDoor
set_option linter.unusedVariables false
namespace Js
open Sha
end Js
namespace Sx
open Go.RowKit Sha Vi Js

theorem frc_atJ {x y : SC} {k : SC → Prop} (h : x = y) (hk : k y) : frcSC x k := by rw [h, frcSC_eq]; exact hk
end Sx
end Go.Proofs.YtnehmcpkeamghaaDoor
end
