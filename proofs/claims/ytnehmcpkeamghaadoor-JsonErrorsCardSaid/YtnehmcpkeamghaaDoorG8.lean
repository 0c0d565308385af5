/-
  Texts of this claim, part 8: JsO, JsK, JsW, JsY, JsZ, JtA, JtB, JtL, Sxw, Sxw2, Sxv, Sxs, JtW. No condition of its own.
-/
import Derived.Lib.LaidU8
import Derived.MakeChecks
import Derived.OpenShut
import Derived.ChangeArms
import Derived.Test.YtnehmcpkeamghaaDoorG7
section
/-
  The reader of texts: an object. No condition.
-/
namespace Go.Proofs.YtnehmcpkeamghaaDoor
set_option linter.unusedVariables false
namespace Sx
open Go.RowKit Sha Vi Js

abbrev vo0 : List Seg := [.one (.w8 6#8), .one (.w64 0#64), .one (.str []), .one (.slc none 0 0), .one (.slc none 0 0)]
abbrev vo1 (i n c j m e : Nat) : List Seg := [.one (.w8 6#8), .one (.w64 0#64), .one (.str []), .one (.sl i 0 0 n c), .one (.sl j 0 0 m e)]
theorem pobj_name {pv : Bs → R JT} {f : Nat} {l : Bs} {acc : List JT} {ns : List Bs} {e : Int} (h : pname l ns = .bad e) : pobj pv (f + 1) l acc ns = .bad e := by
  rw [pobj, h]
theorem pobj_val {pv : Bs → R JT} {f : Nat} {l r : Bs} {acc : List JT} {ns : List Bs} {t : Bs} {e : Int} (h : pname l ns = .ok t r) (h2 : pv r = .bad e) : pobj pv (f + 1) l acc ns = .bad e := by
  rw [pobj, h]
  dsimp only
  rw [h2]
theorem pobj_next {pv : Bs → R JT} {f : Nat} {l r q r' : Bs} {acc : List JT} {ns : List Bs} {t : Bs} {x : JT} (h : pname l ns = .ok t r) (h2 : pv r = .ok x q) (hb : blanks q = 44#8 :: r') : pobj pv (f + 1) l acc ns = pobj pv f r' (acc ++ [x]) (ns ++ [t]) := by
  rw [pobj, h]
  dsimp only
  rw [h2]
  dsimp only
  rw [hb]
  dsimp only
  rw [if_pos rfl]
theorem pobj_end {pv : Bs → R JT} {f : Nat} {l r q r' : Bs} {acc : List JT} {ns : List Bs} {t : Bs} {x : JT} (h : pname l ns = .ok t r) (h2 : pv r = .ok x q) (hb : blanks q = 125#8 :: r') : pobj pv (f + 1) l acc ns = .ok (.mk 6#8 0#64 [] (acc ++ [x]) (ns ++ [t])) r' := by
  rw [pobj, h]
  dsimp only
  rw [h2]
  dsimp only
  rw [hb]
  dsimp only
  rw [if_neg (by decide), if_pos rfl]
theorem pobj_no {pv : Bs → R JT} {f : Nat} {l r q : Bs} {acc : List JT} {ns : List Bs} {t : Bs} {x : JT} (h : pname l ns = .ok t r) (h2 : pv r = .ok x q) (h3 : ∀ r', blanks q ≠ 44#8 :: r') (h4 : ∀ r', blanks q ≠ 125#8 :: r') : pobj pv (f + 1) l acc ns = .bad 4 := by
  rw [pobj, h]
  dsimp only
  rw [h2]
  dsimp only
  cases hb : blanks q with
  | nil => rfl
  | cons c r' =>
    dsimp only
    rw [if_neg (fun hc => h3 r' (by rw [hb, hc])), if_neg (fun hc => h4 r' (by rw [hb, hc]))]
/-- The names' cells. -/
def nmL (ns : List Bs) : List SC := (ns.map U8).map SC.str
theorem nmL_raw (ns : List Bs) : ∀ x ∈ nmL ns, x.raw = x := fun x hx => by
  obtain ⟨b, _, rfl⟩ := List.mem_map.1 hx
  rfl
theorem nmL_len (ns : List Bs) : (nmL ns).length = ns.length := by simp [nmL]
theorem nmL_app (ns : List Bs) (t : Bs) : nmL (ns ++ [t]) = nmL ns ++ [.str (U8 t)] := by simp [nmL]
theorem nmL_newrow {t : Bs} (j : Nat) (hj : j < (nmL [t]).length) : newF (scale 1 (0 + 1)) (fun q => nthC [SC.str (U8 t)] (q + 0)) j = nthC (nmL [t]) j :=
  newJ_cs (new := nmL [t]) (m := 1) (sz := 0) rfl (fun _ _ => rfl) j hj
theorem nmL_approw {ns : List Bs} {t : Bs} {n : Nat} (hn : ns.length = n) (j : Nat) (hj : j < (nmL (ns ++ [t])).length) : appF (nthC (nmL ns)) 0 (scale n (0 + 1)) (scale 1 (0 + 1)) (fun q => nthC [SC.str (U8 t)] (q + 0)) j = nthC (nmL (ns ++ [t])) j := by
  rw [nmL_app] at hj ⊢
  exact appJ_cs (cs := nmL ns) (new := [SC.str (U8 t)]) (m := 1) (sz := 0) (by rw [nmL_len, hn]; omega) (fun _ _ => rfl) rfl (fun _ _ => rfl) j hj
set_option maxRecDepth 20000 in
set_option maxHeartbeats 32000000 in
theorem fn_object {W : World} {ms : List Nat} (hT : Tabs W ms) (d : Nat) (depth : Nat) (hd : depth ≤ 8) (s : Bs) (hs : s.length ≤ 1048576) (hv : ∀ (W : World) (ms : List Nat) (k : Nat), Tabs W ms → k ≤ s.length → FnR Tryd.prog tds 42 1 [[.past W ms], psr s k] [.c (.p 1 0 0), .c (.int .i64 ((depth + 1 : Nat) : Int))] (fun _ => True) (ValA W ms d s k (pval d (s.drop k))))
    (k : Nat) (hk : k < s.length) : FnR Tryd.prog tds 57 1 [[.past W ms], psr s k] [.c (.p 1 0 0), .c (.int .i64 (depth : Int))] (fun _ => True) (ValA W ms (d + 1) s k (objs (pval d) (s.drop (k + 1)))) := by
  refine fn_of_bodyW tds_ok follows_ Tryd.func57 rfl (t := .a (.c (.p 1 0 0)) :: .a (.c (.int .i64 (depth : Int))) :: anys (Tryd.f57.ntmps - 2)) rfl (fun w r0 hr0 _ => ?_)
  obtain ⟨x0, x1, rfl⟩ := len2' hr0
  (repeat first | (refine And.intro ?_ ?_; first | exact rfl | ((exact fun h => absurd h (by first | decide)); intro yy; clear yy) | (rotate_left; (exact fun h => absurd h (by first | decide)); intro yy; clear yy) | decide | omega) | (with_reducible refine frc_bytesL (by first | omega | decide) ?_) | (with_reducible refine frc_bytesM (by first | omega | decide) ?_))
  refine call_same (fn_blanks s (k + 1) (by omega) hs) [1] rfl (by (repeat first | exact trivial | refine ent1 ?_)) (by (repeat first | exact trivial | refine ent1 ?_)) (fun _ _ => trivial) ?_
  rintro x hs' ⟨k1, g1, g2, g3, rfl, rfl⟩
  (repeat first | (refine And.intro ?_ ?_; first | exact rfl | ((exact fun h => absurd h (by first | decide)); intro yy; clear yy) | (rotate_left; (exact fun h => absurd h (by first | decide)); intro yy; clear yy) | decide | omega) | (with_reducible refine frc_bytesL (by first | omega | decide) ?_) | (with_reducible refine frc_bytesM (by first | omega | decide) ?_))
  refine call_same (fn_peek s k1) [1] rfl (by (repeat first | exact trivial | refine ent1 ?_)) (by (repeat first | exact trivial | refine ent1 ?_)) (fun _ _ => trivial) ?_
  rintro x hs' ⟨rfl, rfl⟩
  by_cases c1 : L s k1 = 125#8
  · have e1 : decide (L s k1 = 125#8) = true := decide_eq_true c1
    obtain ⟨h1, h2⟩ := of_L c1 (by decide)
    have hP : objs (pval d) (s.drop (k + 1)) = .ok (.mk 6#8 0#64 [] [] []) (s.drop (k1 + 1)) := by
      unfold objs
      rw [← g3, h1]
      dsimp only
      rw [if_pos rfl]
    (repeat first | (refine And.intro ?_ ?_; first | exact rfl | ((exact fun h => absurd h (by first | decide | (rw [e1]; decide))); intro yy; clear yy) | (rotate_left; (exact fun h => absurd h (by first | decide | (rw [e1]; decide))); intro yy; clear yy) | decide | omega) | (with_reducible refine frc_bytesL (by first | omega | decide) ?_) | (with_reducible refine frc_bytesM (by first | omega | decide) ?_))
    exact FinW.of ⟨.tup [.agg (jvS (.mk 6#8 0#64 [] [] []) jc0), .c (.int .i64 0)], _, ⟨[0, 1], ⟨rfl, rfl, rfl⟩, by (repeat first | exact trivial | refine ent1 ?_)⟩, .inl ⟨_, jc0, k1 + 1, W, ms, hP, by omega, by omega, Later.refl _ _, TAt.leaf rfl rfl _, rfl, rfl⟩⟩
  have e1 : decide (L s k1 = 125#8) = false := decide_eq_false c1
  obtain ⟨f0, hf0, hP0⟩ : ∃ f, s.length - k1 < f ∧ objs (pval d) (s.drop (k + 1)) = pobj (pval d) f (s.drop k1) [] [] := by
    rcases drop_L (s := s) (k := k1) with ⟨h1, h2⟩ | ⟨h1, h2, _⟩
    · refine ⟨(s.drop k1).length + 1, by rw [List.length_drop]; omega, ?_⟩
      unfold objs
      rw [← g3, h2]
      dsimp only
      rw [if_neg c1]
    · refine ⟨1, by omega, ?_⟩
      unfold objs
      rw [← g3, h2]
  (repeat first | (refine And.intro ?_ ?_; first | exact rfl | ((exact fun h => absurd h (by first | decide | (rw [e1]; decide))); intro yy; clear yy) | (rotate_left; (exact fun h => absurd h (by first | decide | (rw [e1]; decide))); intro yy; clear yy) | decide | omega) | (with_reducible refine frc_bytesL (by first | omega | decide) ?_) | (with_reducible refine frc_bytesM (by first | omega | decide) ?_))
  refine .inl ⟨Option (List JT × List SC × List Bs × Nat × Nat) × Nat × World × List Nat, fun x => match x with
    | (none, j, W', ms') => ⟨[.a (.c (.p 1 0 0)), .a (.c (.int .i64 ((depth : Int)))), .any, .any, .a (.c (.p 2 0 0)), .a (.c (.int .i64 (0))), .a (.c (.p 3 0 0)), .a (.c (.mh 4)), .any, .any, .any, .any, .any, .any, .any, .any, .any, .any, .any, .any, .any, .any, .any, .any, .any, .any, .any, .any, .any, .any, .any, .any, .any, .any, .any, .any, .any, .any, .any, .any, .any, .any, .any, .any, .any, .any, .any, .any, .any, .any, .any, .any, .any, .any, .any, .any, .any, .any, .any, .any, .any, .any, .any, .any, .any, .any, .any, .any, .any, .any, .any, .any, .any, .any, .any, .any, .any, .any, .any, .any, .any, .any, .any, .any, .any, .any, .any, .any, .any, .any], [[.past W' ms'], psr s j, vz, vo0, hadC []]⟩
    | (some (done, cs, ns, c, e), j, W', ms') => ⟨[.a (.c (.p 1 0 0)), .a (.c (.int .i64 ((depth : Int)))), .any, .any, .a (.c (.p 2 0 0)), .a (.c (.int .i64 (0))), .a (.c (.p 3 0 0)), .a (.c (.mh 4)), .any, .any, .any, .any, .any, .any, .any, .any, .any, .any, .any, .any, .any, .any, .any, .any, .any, .any, .any, .any, .any, .any, .any, .any, .any, .any, .any, .any, .any, .any, .any, .any, .any, .any, .any, .any, .any, .any, .any, .any, .any, .any, .any, .any, .any, .any, .any, .any, .any, .any, .any, .any, .any, .any, .any, .any, .any, .any, .any, .any, .any, .any, .any, .any, .any, .any, .any, .any, .any, .any, .any, .any, .any, .any, .any, .any, .any, .any, .any, .any, .any, .any], [[.past W' ms'], psr s j, vz, vo1 6 done.length c 5 done.length e, hadC ns, [.row (scale e (0 + 1)) (nthC (nmL ns))], [.row (scale c (4 + 1)) (nthC cs)]]⟩,
    fun x => match x with
    | (none, j, W', ms') => k < j ∧ j ≤ s.length ∧ Later W ms W' ms' ∧ ∃ f, s.length - j < f ∧ objs (pval d) (s.drop (k + 1)) = pobj (pval d) f (s.drop j) [] []
    | (some (done, cs, ns, c, e), j, W', ms') => k < j ∧ j ≤ s.length ∧ Later W ms W' ms' ∧ done.length ≤ j ∧ done.length ≤ c ∧ done.length ≤ e ∧ ns.length = done.length ∧ RowJ W' ms' d cs done ∧ ∃ f, s.length - j < f ∧ objs (pval d) (s.drop (k + 1)) = pobj (pval d) f (s.drop j) done ns,
    fun x => s.length - x.2.1, ⟨(none, k1, W, ms), [0, 1, 2, 3, 4], ⟨⟨rfl, rfl, rfl⟩, by (repeat first | exact trivial | refine ent1 ?_)⟩, by omega, g2, Later.refl _ _, f0, hf0, hP0⟩, fun x hx => ?_⟩
  rcases x with ⟨_ | ⟨done, cs, ns, c, e⟩, j, W', ms'⟩
  · obtain ⟨q1, q2, hL, f, hf, hP⟩ := hx
    obtain ⟨f, rfl⟩ : ∃ f', f = f' + 1 := ⟨f - 1, by omega⟩
    dsimp only
    (repeat first | (refine And.intro ?_ ?_; first | exact rfl | ((exact fun h => absurd h (by first | decide)); intro yy; clear yy) | (rotate_left; (exact fun h => absurd h (by first | decide)); intro yy; clear yy) | decide | omega) | (with_reducible refine frc_bytesL (by first | omega | decide) ?_) | (with_reducible refine frc_bytesM (by first | omega | decide) ?_))
    refine call_same (fn_name (hT.later hL) s j [] q2 hs) [0, 1, 4] rfl (by (repeat first | exact trivial | refine ent1 ?_)) (by (repeat first | exact trivial | refine ent1 ?_)) (fun _ _ => trivial) ?_
    rintro y hs' (⟨t, k3, u1, u2, u3, rfl, rfl⟩ | ⟨e', k3, l', u1, u0, u2, u3, rfl, rfl⟩)
    rotate_left
    · have f1 : decide (e' ≠ 0) = true := decide_eq_true u0
      (repeat first | (refine And.intro ?_ ?_; first | exact rfl | ((exact fun h => absurd h (by first | decide | (rw [f1]; decide))); intro yy; clear yy) | (rotate_left; (exact fun h => absurd h (by first | decide | (rw [f1]; decide))); intro yy; clear yy) | decide | omega) | (with_reducible refine frc_bytesL (by first | omega | decide) ?_) | (with_reducible refine frc_bytesM (by first | omega | decide) ?_))
      exact FinW.of ⟨.tup [.agg (jvS jt0 jc0), .c (.int .i64 e')], _, ⟨[0, 1], ⟨rfl, rfl, rfl⟩, by (repeat first | exact trivial | refine ent1 ?_)⟩, .inr ⟨e', jt0, jc0, k3, W', ms', by rw [hP, pobj_name u1], u0, by omega, u3, hL, rfl, rfl⟩⟩
    (repeat first | (refine And.intro ?_ ?_; first | exact rfl | ((exact fun h => absurd h (by first | decide)); intro yy; clear yy) | (rotate_left; (exact fun h => absurd h (by first | decide)); intro yy; clear yy) | decide | omega) | (with_reducible refine frc_bytesL (by first | omega | decide) ?_) | (with_reducible refine frc_bytesM (by first | omega | decide) ?_))
    refine call_past (hv W' ms' k3 (hT.later hL) u3) 0 [1] rfl rfl (by (repeat first | exact trivial | refine ent1 ?_)) (by (repeat first | exact trivial | refine ent1 ?_)) (fun _ _ => trivial) (fun x hs hr => ?_) ?_
    · rcases hr with ⟨v, x, k', W5, ms5, _, _, _, hL5, _, _, rfl⟩ | ⟨e, v, x, k', W5, ms5, _, _, _, _, hL5, _, rfl⟩
      · exact ⟨W5, ms5, rfl, hL5⟩
      · exact ⟨W5, ms5, rfl, hL5⟩
    rintro y hs' (⟨v, x, k', W5, ms5, p1, p2, p3, hL5, hx5, rfl, rfl⟩ | ⟨e', v, x, k', W5, ms5, p1, p0, p2, p3, hL5, rfl, rfl⟩)
    rotate_left
    · have f1 : decide (e' ≠ 0) = true := decide_eq_true p0
      (repeat first | (refine And.intro ?_ ?_; first | exact rfl | ((exact fun h => absurd h (by first | decide | (rw [f1]; decide))); intro yy; clear yy) | (rotate_left; (exact fun h => absurd h (by first | decide | (rw [f1]; decide))); intro yy; clear yy) | decide | omega) | (with_reducible refine frc_bytesL (by first | omega | decide) ?_) | (with_reducible refine frc_bytesM (by first | omega | decide) ?_))
      exact FinW.of ⟨.tup [.agg (jvS jt0 jc0), .c (.int .i64 e')], _, ⟨[0, 1], ⟨rfl, rfl, rfl⟩, by (repeat first | exact trivial | refine ent1 ?_)⟩, .inr ⟨e', jt0, jc0, k', W5, ms5, by rw [hP, pobj_val u1 p1], p0, by omega, p3, hL.trans hL5, rfl, rfl⟩⟩
    have hrw : RowJ W5 ms5 d (flat (jvS v x)) [v] := RowJ.nil.snoc hx5
    (repeat first | (refine And.intro ?_ ?_; first | exact rfl | ((exact fun h => absurd h (by first | decide)); intro yy; clear yy) | (rotate_left; (exact fun h => absurd h (by first | decide)); intro yy; clear yy) | decide | omega) | (with_reducible refine frc_bytesL (by first | omega | decide) ?_) | (with_reducible refine frc_bytesM (by first | omega | decide) ?_))
    refine ⟨some [3, 5], [1001, 1000, 1001, 1002, 1005, 1006, 1007, 3, 3, 8, 3, 4, 8, 1010, 2008, 2009, 0, 2004, 1010, 2009, 0, 2003, 2004, 1010, 2009, 0], [(0, true), (1, true), (2, true), (3, false), (4, false), (5, true), (6, true), (7, true), (8, false), (9, false), (10, true)], [11, 12, 13], by kernel_rfl, ?_⟩
    (repeat first | (refine And.intro ?_ ?_; first | exact rfl | ((exact fun h => absurd h (by first | decide)); intro yy; clear yy) | (rotate_left; (exact fun h => absurd h (by first | decide)); intro yy; clear yy) | decide | omega) | (with_reducible refine frc_bytesL (by first | omega | decide) ?_) | (with_reducible refine frc_bytesM (by first | omega | decide) ?_))
    refine And.intro (And.intro ?_ ?_) ?_
    · (repeat first | (refine And.intro ?_ ?_; first | exact rfl | ((exact fun h => absurd h (by first | decide)); intro yy; clear yy) | (rotate_left; (exact fun h => absurd h (by first | decide)); intro yy; clear yy) | decide | omega) | (with_reducible refine frc_bytesL (by first | omega | decide) ?_) | (with_reducible refine frc_bytesM (by first | omega | decide) ?_))
      intro e2 he2
      refine And.intro rfl ?_
      refine And.intro (show 0 + 5 ≤ 5 by decide) ?_
      (repeat first | (refine And.intro ?_ ?_; first | exact rfl | ((exact fun h => absurd h (by first | decide)); intro yy; clear yy) | (rotate_left; (exact fun h => absurd h (by first | decide)); intro yy; clear yy) | decide | omega) | (with_reducible refine frc_bytesL (by first | omega | decide) ?_) | (with_reducible refine frc_bytesM (by first | omega | decide) ?_))
      intro c2 hc2
      (repeat first | (refine And.intro ?_ ?_; first | exact rfl | ((exact fun h => absurd h (by first | decide)); intro yy; clear yy) | (rotate_left; (exact fun h => absurd h (by first | decide)); intro yy; clear yy) | decide | omega) | (with_reducible refine frc_bytesL (by first | omega | decide) ?_) | (with_reducible refine frc_bytesM (by first | omega | decide) ?_))
      refine call_same (fn_blanks s k' p3 hs) [1] rfl (by (repeat first | exact trivial | refine ent1 ?_)) (by (repeat first | exact trivial | refine ent1 ?_)) (fun _ _ => trivial) ?_
      rintro y hs' ⟨k2, r1, r2, r3, rfl, rfl⟩
      (repeat first | (refine And.intro ?_ ?_; first | exact rfl | ((exact fun h => absurd h (by first | decide)); intro yy; clear yy) | (rotate_left; (exact fun h => absurd h (by first | decide)); intro yy; clear yy) | decide | omega) | (with_reducible refine frc_bytesL (by first | omega | decide) ?_) | (with_reducible refine frc_bytesM (by first | omega | decide) ?_))
      refine call_same (fn_peek s k2) [1] rfl (by (repeat first | exact trivial | refine ent1 ?_)) (by (repeat first | exact trivial | refine ent1 ?_)) (fun _ _ => trivial) ?_
      rintro y hs' ⟨rfl, rfl⟩
      by_cases c2' : L s k2 = 44#8
      · have f1 : decide (L s k2 = 44#8) = true := decide_eq_true c2'
        obtain ⟨h1, h2⟩ := of_L c2' (by decide)
        rw [pobj_next u1 p1 (by rw [← r3]; exact h1)] at hP
        (repeat first | (refine And.intro ?_ ?_; first | exact rfl | ((exact fun h => absurd h (by first | decide | (rw [f1]; decide))); intro yy; clear yy) | (rotate_left; (exact fun h => absurd h (by first | decide | (rw [f1]; decide))); intro yy; clear yy) | decide | omega) | (with_reducible refine frc_bytesL (by first | omega | decide) ?_) | (with_reducible refine frc_bytesM (by first | omega | decide) ?_))
        refine ⟨(some ([v], (flat (jvS v x)), [t], c2, e2), k2 + 1, W5, ms5), [0, 1, 2, 3, 4, 7, 9], ⟨⟨rfl, rfl, rfl⟩, ?_⟩, ⟨by omega, by omega, hL.trans hL5, by show 1 ≤ _; omega, by exact hc2, by exact he2, by rfl, hrw, f, by omega, hP⟩, by dsimp only; omega⟩
        (repeat first | exact trivial | refine ent1 ?_)
        refine And.intro (fun j hj => eqJ_cs (nmL_raw _) (fun j hj => nmL_newrow j hj) j) ?_
        (repeat first | exact trivial | refine ent1 ?_)
        exact ⟨fun j hj => eqJ_cs hrw.raw (newJ_cs (m := 1) (sz := 4) rfl fun j hj => updJ_new hj) j, by (repeat first | exact trivial | refine ent1 ?_)⟩
      have f1 : decide (L s k2 = 44#8) = false := decide_eq_false c2'
      by_cases c3 : L s k2 = 125#8
      · have f2 : decide (L s k2 = 125#8) = true := decide_eq_true c3
        obtain ⟨h1, h2⟩ := of_L c3 (by decide)
        rw [pobj_end u1 p1 (by rw [← r3]; exact h1)] at hP
        (repeat first | (refine And.intro ?_ ?_; first | exact rfl | ((exact fun h => absurd h (by first | decide | (rw [f1]; decide) | (rw [f2]; decide))); intro yy; clear yy) | (rotate_left; (exact fun h => absurd h (by first | decide | (rw [f1]; decide) | (rw [f2]; decide))); intro yy; clear yy) | decide | omega) | (with_reducible refine frc_bytesL (by first | omega | decide) ?_) | (with_reducible refine frc_bytesM (by first | omega | decide) ?_))
        refine finW_frzU [0, 1] rfl (Nat.zero_lt_one) cx0_m rfl (fun W9 ms9 α hL9 hI => ?_)
        have hfz := hrw.frz (F := fun j => !memB j [0, 1]) hL9 (newJ_cs (m := 1) (sz := 4) rfl fun j hj => updJ_new hj) (hI 9 rfl) marks_off (n := 1) rfl hc2 (by omega)
        have hfn := strs_frz (l := [t].map U8) (F := fun j => !memB j [0, 1]) (fun j hj => nmL_newrow j hj) (fun h => (hI 7 rfl h).1) (n := 1) (by rw [List.length_map]; rfl) he2 (by omega)
        refine ⟨.tup [.agg (jvS (.mk 6#8 0#64 [] ([v]) ([t])) ⟨some ((α 9).add (0 + 0)), 1, c2, some ((α 7).add (0 + 0)), 1, e2⟩), .c (.int .i64 0)], [psr s (k2 + 1)], ⟨⟨rfl, rfl, rfl⟩, by (repeat first | exact trivial | refine ent1 ?_)⟩, .inl ⟨_, ⟨some ((α 9).add (0 + 0)), 1, c2, some ((α 7).add (0 + 0)), 1, e2⟩, k2 + 1, W9, ms9, hP, by omega, by omega, hL.trans (hL5.trans hL9), ⟨hfz, hfn⟩, rfl, rfl⟩⟩
      have f2 : decide (L s k2 = 125#8) = false := decide_eq_false c3
      (repeat first | (refine And.intro ?_ ?_; first | exact rfl | ((exact fun h => absurd h (by first | decide | (rw [f1]; decide) | (rw [f2]; decide))); intro yy; clear yy) | (rotate_left; (exact fun h => absurd h (by first | decide | (rw [f1]; decide) | (rw [f2]; decide))); intro yy; clear yy) | decide | omega) | (with_reducible refine frc_bytesL (by first | omega | decide) ?_) | (with_reducible refine frc_bytesM (by first | omega | decide) ?_))
      refine FinW.of ⟨.tup [.agg (jvS jt0 jc0), .c (.int .i64 4)], _, ⟨[0, 1], ⟨rfl, rfl, rfl⟩, by (repeat first | exact trivial | refine ent1 ?_)⟩, .inr ⟨4, jt0, jc0, k2, W5, ms5, ?_, by decide, by omega, r2, hL.trans hL5, rfl, rfl⟩⟩
      rw [hP, pobj_no u1 p1 (fun r' h => c2' (L_of (r3.trans h)).1) (fun r' h => c3 (L_of (r3.trans h)).1)]
    · refine And.intro rfl ?_
      refine And.intro (show 0 + 5 ≤ 5 by decide) ?_
      (repeat first | (refine And.intro ?_ ?_; first | exact rfl | ((exact fun h => absurd h (by first | decide)); intro yy; clear yy) | (rotate_left; (exact fun h => absurd h (by first | decide)); intro yy; clear yy) | decide | omega) | (with_reducible refine frc_bytesL (by first | omega | decide) ?_) | (with_reducible refine frc_bytesM (by first | omega | decide) ?_))
      intro e2 he2
      (repeat first | (refine And.intro ?_ ?_; first | exact rfl | ((exact fun h => absurd h (by first | decide)); intro yy; clear yy) | (rotate_left; (exact fun h => absurd h (by first | decide)); intro yy; clear yy) | decide | omega) | (with_reducible refine frc_bytesL (by first | omega | decide) ?_) | (with_reducible refine frc_bytesM (by first | omega | decide) ?_))
      intro c2 hc2
      (repeat first | (refine And.intro ?_ ?_; first | exact rfl | ((exact fun h => absurd h (by first | decide)); intro yy; clear yy) | (rotate_left; (exact fun h => absurd h (by first | decide)); intro yy; clear yy) | decide | omega) | (with_reducible refine frc_bytesL (by first | omega | decide) ?_) | (with_reducible refine frc_bytesM (by first | omega | decide) ?_))
      refine call_same (fn_blanks s k' p3 hs) [1] rfl (by (repeat first | exact trivial | refine ent1 ?_)) (by (repeat first | exact trivial | refine ent1 ?_)) (fun _ _ => trivial) ?_
      rintro y hs' ⟨k2, r1, r2, r3, rfl, rfl⟩
      (repeat first | (refine And.intro ?_ ?_; first | exact rfl | ((exact fun h => absurd h (by first | decide)); intro yy; clear yy) | (rotate_left; (exact fun h => absurd h (by first | decide)); intro yy; clear yy) | decide | omega) | (with_reducible refine frc_bytesL (by first | omega | decide) ?_) | (with_reducible refine frc_bytesM (by first | omega | decide) ?_))
      refine call_same (fn_peek s k2) [1] rfl (by (repeat first | exact trivial | refine ent1 ?_)) (by (repeat first | exact trivial | refine ent1 ?_)) (fun _ _ => trivial) ?_
      rintro y hs' ⟨rfl, rfl⟩
      by_cases c2' : L s k2 = 44#8
      · have f1 : decide (L s k2 = 44#8) = true := decide_eq_true c2'
        obtain ⟨h1, h2⟩ := of_L c2' (by decide)
        rw [pobj_next u1 p1 (by rw [← r3]; exact h1)] at hP
        (repeat first | (refine And.intro ?_ ?_; first | exact rfl | ((exact fun h => absurd h (by first | decide | (rw [f1]; decide))); intro yy; clear yy) | (rotate_left; (exact fun h => absurd h (by first | decide | (rw [f1]; decide))); intro yy; clear yy) | decide | omega) | (with_reducible refine frc_bytesL (by first | omega | decide) ?_) | (with_reducible refine frc_bytesM (by first | omega | decide) ?_))
        refine ⟨(some ([v], (flat (jvS v x)), [t], c2, e2), k2 + 1, W5, ms5), [0, 1, 2, 3, 4, 8, 9], ⟨⟨rfl, rfl, rfl⟩, ?_⟩, ⟨by omega, by omega, hL.trans hL5, by show 1 ≤ _; omega, by exact hc2, by exact he2, by rfl, hrw, f, by omega, hP⟩, by dsimp only; omega⟩
        (repeat first | exact trivial | refine ent1 ?_)
        refine And.intro (fun j hj => eqJ_cs (nmL_raw _) (fun j hj => nmL_newrow j hj) j) ?_
        (repeat first | exact trivial | refine ent1 ?_)
        exact ⟨fun j hj => eqJ_cs hrw.raw (newJ_cs (m := 1) (sz := 4) rfl fun j hj => updJ_new hj) j, by (repeat first | exact trivial | refine ent1 ?_)⟩
      have f1 : decide (L s k2 = 44#8) = false := decide_eq_false c2'
      by_cases c3 : L s k2 = 125#8
      · have f2 : decide (L s k2 = 125#8) = true := decide_eq_true c3
        obtain ⟨h1, h2⟩ := of_L c3 (by decide)
        rw [pobj_end u1 p1 (by rw [← r3]; exact h1)] at hP
        (repeat first | (refine And.intro ?_ ?_; first | exact rfl | ((exact fun h => absurd h (by first | decide | (rw [f1]; decide) | (rw [f2]; decide))); intro yy; clear yy) | (rotate_left; (exact fun h => absurd h (by first | decide | (rw [f1]; decide) | (rw [f2]; decide))); intro yy; clear yy) | decide | omega) | (with_reducible refine frc_bytesL (by first | omega | decide) ?_) | (with_reducible refine frc_bytesM (by first | omega | decide) ?_))
        refine finW_frzU [0, 1] rfl (Nat.zero_lt_one) cx0_m rfl (fun W9 ms9 α hL9 hI => ?_)
        have hfz := hrw.frz (F := fun j => !memB j [0, 1]) hL9 (newJ_cs (m := 1) (sz := 4) rfl fun j hj => updJ_new hj) (hI 9 rfl) marks_off (n := 1) rfl hc2 (by omega)
        have hfn := strs_frz (l := [t].map U8) (F := fun j => !memB j [0, 1]) (fun j hj => nmL_newrow j hj) (fun h => (hI 8 rfl h).1) (n := 1) (by rw [List.length_map]; rfl) he2 (by omega)
        refine ⟨.tup [.agg (jvS (.mk 6#8 0#64 [] ([v]) ([t])) ⟨some ((α 9).add (0 + 0)), 1, c2, some ((α 8).add (0 + 0)), 1, e2⟩), .c (.int .i64 0)], [psr s (k2 + 1)], ⟨⟨rfl, rfl, rfl⟩, by (repeat first | exact trivial | refine ent1 ?_)⟩, .inl ⟨_, ⟨some ((α 9).add (0 + 0)), 1, c2, some ((α 8).add (0 + 0)), 1, e2⟩, k2 + 1, W9, ms9, hP, by omega, by omega, hL.trans (hL5.trans hL9), ⟨hfz, hfn⟩, rfl, rfl⟩⟩
      have f2 : decide (L s k2 = 125#8) = false := decide_eq_false c3
      (repeat first | (refine And.intro ?_ ?_; first | exact rfl | ((exact fun h => absurd h (by first | decide | (rw [f1]; decide) | (rw [f2]; decide))); intro yy; clear yy) | (rotate_left; (exact fun h => absurd h (by first | decide | (rw [f1]; decide) | (rw [f2]; decide))); intro yy; clear yy) | decide | omega) | (with_reducible refine frc_bytesL (by first | omega | decide) ?_) | (with_reducible refine frc_bytesM (by first | omega | decide) ?_))
      refine FinW.of ⟨.tup [.agg (jvS jt0 jc0), .c (.int .i64 4)], _, ⟨[0, 1], ⟨rfl, rfl, rfl⟩, by (repeat first | exact trivial | refine ent1 ?_)⟩, .inr ⟨4, jt0, jc0, k2, W5, ms5, ?_, by decide, by omega, r2, hL.trans hL5, rfl, rfl⟩⟩
      rw [hP, pobj_no u1 p1 (fun r' h => c2' (L_of (r3.trans h)).1) (fun r' h => c3 (L_of (r3.trans h)).1)]
    · refine And.intro rfl ?_
      refine And.intro (show 0 + 5 ≤ 5 by decide) ?_
      (repeat first | (refine And.intro ?_ ?_; first | exact rfl | ((exact fun h => absurd h (by first | decide)); intro yy; clear yy) | (rotate_left; (exact fun h => absurd h (by first | decide)); intro yy; clear yy) | decide | omega) | (with_reducible refine frc_bytesL (by first | omega | decide) ?_) | (with_reducible refine frc_bytesM (by first | omega | decide) ?_))
      intro e2 he2
      (repeat first | (refine And.intro ?_ ?_; first | exact rfl | ((exact fun h => absurd h (by first | decide)); intro yy; clear yy) | (rotate_left; (exact fun h => absurd h (by first | decide)); intro yy; clear yy) | decide | omega) | (with_reducible refine frc_bytesL (by first | omega | decide) ?_) | (with_reducible refine frc_bytesM (by first | omega | decide) ?_))
      intro c2 hc2
      (repeat first | (refine And.intro ?_ ?_; first | exact rfl | ((exact fun h => absurd h (by first | decide)); intro yy; clear yy) | (rotate_left; (exact fun h => absurd h (by first | decide)); intro yy; clear yy) | decide | omega) | (with_reducible refine frc_bytesL (by first | omega | decide) ?_) | (with_reducible refine frc_bytesM (by first | omega | decide) ?_))
      refine call_same (fn_blanks s k' p3 hs) [1] rfl (by (repeat first | exact trivial | refine ent1 ?_)) (by (repeat first | exact trivial | refine ent1 ?_)) (fun _ _ => trivial) ?_
      rintro y hs' ⟨k2, r1, r2, r3, rfl, rfl⟩
      (repeat first | (refine And.intro ?_ ?_; first | exact rfl | ((exact fun h => absurd h (by first | decide)); intro yy; clear yy) | (rotate_left; (exact fun h => absurd h (by first | decide)); intro yy; clear yy) | decide | omega) | (with_reducible refine frc_bytesL (by first | omega | decide) ?_) | (with_reducible refine frc_bytesM (by first | omega | decide) ?_))
      refine call_same (fn_peek s k2) [1] rfl (by (repeat first | exact trivial | refine ent1 ?_)) (by (repeat first | exact trivial | refine ent1 ?_)) (fun _ _ => trivial) ?_
      rintro y hs' ⟨rfl, rfl⟩
      by_cases c2' : L s k2 = 44#8
      · have f1 : decide (L s k2 = 44#8) = true := decide_eq_true c2'
        obtain ⟨h1, h2⟩ := of_L c2' (by decide)
        rw [pobj_next u1 p1 (by rw [← r3]; exact h1)] at hP
        (repeat first | (refine And.intro ?_ ?_; first | exact rfl | ((exact fun h => absurd h (by first | decide | (rw [f1]; decide))); intro yy; clear yy) | (rotate_left; (exact fun h => absurd h (by first | decide | (rw [f1]; decide))); intro yy; clear yy) | decide | omega) | (with_reducible refine frc_bytesL (by first | omega | decide) ?_) | (with_reducible refine frc_bytesM (by first | omega | decide) ?_))
        refine ⟨(some ([v], (flat (jvS v x)), [t], c2, e2), k2 + 1, W5, ms5), [0, 1, 2, 3, 4, 8, 9], ⟨⟨rfl, rfl, rfl⟩, ?_⟩, ⟨by omega, by omega, hL.trans hL5, by show 1 ≤ _; omega, by exact hc2, by exact he2, by rfl, hrw, f, by omega, hP⟩, by dsimp only; omega⟩
        (repeat first | exact trivial | refine ent1 ?_)
        refine And.intro (fun j hj => eqJ_cs (nmL_raw _) (fun j hj => nmL_newrow j hj) j) ?_
        (repeat first | exact trivial | refine ent1 ?_)
        exact ⟨fun j hj => eqJ_cs hrw.raw (newJ_cs (m := 1) (sz := 4) rfl fun j hj => updJ_new hj) j, by (repeat first | exact trivial | refine ent1 ?_)⟩
      have f1 : decide (L s k2 = 44#8) = false := decide_eq_false c2'
      by_cases c3 : L s k2 = 125#8
      · have f2 : decide (L s k2 = 125#8) = true := decide_eq_true c3
        obtain ⟨h1, h2⟩ := of_L c3 (by decide)
        rw [pobj_end u1 p1 (by rw [← r3]; exact h1)] at hP
        (repeat first | (refine And.intro ?_ ?_; first | exact rfl | ((exact fun h => absurd h (by first | decide | (rw [f1]; decide) | (rw [f2]; decide))); intro yy; clear yy) | (rotate_left; (exact fun h => absurd h (by first | decide | (rw [f1]; decide) | (rw [f2]; decide))); intro yy; clear yy) | decide | omega) | (with_reducible refine frc_bytesL (by first | omega | decide) ?_) | (with_reducible refine frc_bytesM (by first | omega | decide) ?_))
        refine finW_frzU [0, 1] rfl (Nat.zero_lt_one) cx0_m rfl (fun W9 ms9 α hL9 hI => ?_)
        have hfz := hrw.frz (F := fun j => !memB j [0, 1]) hL9 (newJ_cs (m := 1) (sz := 4) rfl fun j hj => updJ_new hj) (hI 9 rfl) marks_off (n := 1) rfl hc2 (by omega)
        have hfn := strs_frz (l := [t].map U8) (F := fun j => !memB j [0, 1]) (fun j hj => nmL_newrow j hj) (fun h => (hI 8 rfl h).1) (n := 1) (by rw [List.length_map]; rfl) he2 (by omega)
        refine ⟨.tup [.agg (jvS (.mk 6#8 0#64 [] ([v]) ([t])) ⟨some ((α 9).add (0 + 0)), 1, c2, some ((α 8).add (0 + 0)), 1, e2⟩), .c (.int .i64 0)], [psr s (k2 + 1)], ⟨⟨rfl, rfl, rfl⟩, by (repeat first | exact trivial | refine ent1 ?_)⟩, .inl ⟨_, ⟨some ((α 9).add (0 + 0)), 1, c2, some ((α 8).add (0 + 0)), 1, e2⟩, k2 + 1, W9, ms9, hP, by omega, by omega, hL.trans (hL5.trans hL9), ⟨hfz, hfn⟩, rfl, rfl⟩⟩
      have f2 : decide (L s k2 = 125#8) = false := decide_eq_false c3
      (repeat first | (refine And.intro ?_ ?_; first | exact rfl | ((exact fun h => absurd h (by first | decide | (rw [f1]; decide) | (rw [f2]; decide))); intro yy; clear yy) | (rotate_left; (exact fun h => absurd h (by first | decide | (rw [f1]; decide) | (rw [f2]; decide))); intro yy; clear yy) | decide | omega) | (with_reducible refine frc_bytesL (by first | omega | decide) ?_) | (with_reducible refine frc_bytesM (by first | omega | decide) ?_))
      refine FinW.of ⟨.tup [.agg (jvS jt0 jc0), .c (.int .i64 4)], _, ⟨[0, 1], ⟨rfl, rfl, rfl⟩, by (repeat first | exact trivial | refine ent1 ?_)⟩, .inr ⟨4, jt0, jc0, k2, W5, ms5, ?_, by decide, by omega, r2, hL.trans hL5, rfl, rfl⟩⟩
      rw [hP, pobj_no u1 p1 (fun r' h => c2' (L_of (r3.trans h)).1) (fun r' h => c3 (L_of (r3.trans h)).1)]
  · obtain ⟨q1, q2, hL, q3, q4, q5, q6, hrow, f, hf, hP⟩ := hx
    have hlen := hrow.len
    obtain ⟨f, rfl⟩ : ∃ f', f = f' + 1 := ⟨f - 1, by omega⟩
    dsimp only
    (repeat first | (refine And.intro ?_ ?_; first | exact rfl | ((exact fun h => absurd h (by first | decide)); intro yy; clear yy) | (rotate_left; (exact fun h => absurd h (by first | decide)); intro yy; clear yy) | decide | omega) | (with_reducible refine frc_bytesL (by first | omega | decide) ?_) | (with_reducible refine frc_bytesM (by first | omega | decide) ?_))
    refine call_same (fn_name (hT.later hL) s j ns q2 hs) [0, 1, 4] rfl (by (repeat first | exact trivial | refine ent1 ?_)) (by (repeat first | exact trivial | refine ent1 ?_)) (fun _ _ => trivial) ?_
    rintro y hs' (⟨t, k3, u1, u2, u3, rfl, rfl⟩ | ⟨e', k3, l', u1, u0, u2, u3, rfl, rfl⟩)
    rotate_left
    · have f1 : decide (e' ≠ 0) = true := decide_eq_true u0
      (repeat first | (refine And.intro ?_ ?_; first | exact rfl | ((exact fun h => absurd h (by first | decide | (rw [f1]; decide))); intro yy; clear yy) | (rotate_left; (exact fun h => absurd h (by first | decide | (rw [f1]; decide))); intro yy; clear yy) | decide | omega) | (with_reducible refine frc_bytesL (by first | omega | decide) ?_) | (with_reducible refine frc_bytesM (by first | omega | decide) ?_))
      exact FinW.of ⟨.tup [.agg (jvS jt0 jc0), .c (.int .i64 e')], _, ⟨[0, 1], ⟨rfl, rfl, rfl⟩, by (repeat first | exact trivial | refine ent1 ?_)⟩, .inr ⟨e', jt0, jc0, k3, W', ms', by rw [hP, pobj_name u1], u0, by omega, u3, hL, rfl, rfl⟩⟩
    (repeat first | (refine And.intro ?_ ?_; first | exact rfl | ((exact fun h => absurd h (by first | decide)); intro yy; clear yy) | (rotate_left; (exact fun h => absurd h (by first | decide)); intro yy; clear yy) | decide | omega) | (with_reducible refine frc_bytesL (by first | omega | decide) ?_) | (with_reducible refine frc_bytesM (by first | omega | decide) ?_))
    refine call_past (hv W' ms' k3 (hT.later hL) u3) 0 [1] rfl rfl (by (repeat first | exact trivial | refine ent1 ?_)) (by (repeat first | exact trivial | refine ent1 ?_)) (fun _ _ => trivial) (fun x hs hr => ?_) ?_
    · rcases hr with ⟨v, x, k', W5, ms5, _, _, _, hL5, _, _, rfl⟩ | ⟨e, v, x, k', W5, ms5, _, _, _, _, hL5, _, rfl⟩
      · exact ⟨W5, ms5, rfl, hL5⟩
      · exact ⟨W5, ms5, rfl, hL5⟩
    rintro y hs' (⟨v, x, k', W5, ms5, p1, p2, p3, hL5, hx5, rfl, rfl⟩ | ⟨e', v, x, k', W5, ms5, p1, p0, p2, p3, hL5, rfl, rfl⟩)
    rotate_left
    · have f1 : decide (e' ≠ 0) = true := decide_eq_true p0
      (repeat first | (refine And.intro ?_ ?_; first | exact rfl | ((exact fun h => absurd h (by first | decide | (rw [f1]; decide))); intro yy; clear yy) | (rotate_left; (exact fun h => absurd h (by first | decide | (rw [f1]; decide))); intro yy; clear yy) | decide | omega) | (with_reducible refine frc_bytesL (by first | omega | decide) ?_) | (with_reducible refine frc_bytesM (by first | omega | decide) ?_))
      exact FinW.of ⟨.tup [.agg (jvS jt0 jc0), .c (.int .i64 e')], _, ⟨[0, 1], ⟨rfl, rfl, rfl⟩, by (repeat first | exact trivial | refine ent1 ?_)⟩, .inr ⟨e', jt0, jc0, k', W5, ms5, by rw [hP, pobj_val u1 p1], p0, by omega, p3, hL.trans hL5, rfl, rfl⟩⟩
    have hrw : RowJ W5 ms5 d (cs ++ flat (jvS v x)) (done ++ [v]) := (hrow.later hL5).snoc hx5
    have hdl : (done ++ [v]).length = done.length + 1 := by rw [List.length_append]; rfl
    have hnl : (ns ++ [t]).length = done.length + 1 := by rw [List.length_append, q6]; rfl
    (repeat first | (refine And.intro ?_ ?_; first | exact rfl | ((exact fun h => absurd h (by first | decide)); intro yy; clear yy) | (rotate_left; (exact fun h => absurd h (by first | decide)); intro yy; clear yy) | decide | omega) | (with_reducible refine frc_bytesL (by first | omega | decide) ?_) | (with_reducible refine frc_bytesM (by first | omega | decide) ?_))
    refine ⟨some [3, 7], [1001, 1000, 1001, 1002, 1005, 1006, 1007, 3, 3, 8, 3, 4, 8, 1010, 2008, 2009, 0, 2004, 1010, 2009, 0, 2003, 2004, 1010, 2009, 0], [(0, true), (1, true), (2, true), (3, false), (4, false), (5, true), (6, true), (7, true), (8, false), (9, false), (10, true)], [11, 12, 13], by kernel_rfl, ?_⟩
    (repeat first | (refine And.intro ?_ ?_; first | exact rfl | ((exact fun h => absurd h (by first | decide)); intro yy; clear yy) | (rotate_left; (exact fun h => absurd h (by first | decide)); intro yy; clear yy) | decide | omega) | (with_reducible refine frc_bytesL (by first | omega | decide) ?_) | (with_reducible refine frc_bytesM (by first | omega | decide) ?_))
    refine And.intro (And.intro ?_ ?_) ?_
    · refine And.intro (show 0 + scale 1 (0 + 1) ≤ 1 by decide) ?_
      refine And.intro ⟨q5, by rw [sc1]; omega, show (done.length + 1) * 16 ≤ 140737488355328 by omega⟩ ?_
      intro e2 he2
      refine And.intro rfl ?_
      refine And.intro (show 0 + 5 ≤ 5 by decide) ?_
      refine And.intro (show 0 + scale 1 (4 + 1) ≤ 5 by decide) ?_
      refine And.intro ⟨q4, by rw [sc5]; omega, show (done.length + 1) * 80 ≤ 140737488355328 by omega⟩ ?_
      intro c2 hc2
      (repeat first | (refine And.intro ?_ ?_; first | exact rfl | ((exact fun h => absurd h (by first | decide)); intro yy; clear yy) | (rotate_left; (exact fun h => absurd h (by first | decide)); intro yy; clear yy) | decide | omega) | (with_reducible refine frc_bytesL (by first | omega | decide) ?_) | (with_reducible refine frc_bytesM (by first | omega | decide) ?_))
      refine call_same (fn_blanks s k' p3 hs) [1] rfl (by (repeat first | exact trivial | refine ent1 ?_)) (by (repeat first | exact trivial | refine ent1 ?_)) (fun _ _ => trivial) ?_
      rintro y hs' ⟨k2, r1, r2, r3, rfl, rfl⟩
      (repeat first | (refine And.intro ?_ ?_; first | exact rfl | ((exact fun h => absurd h (by first | decide)); intro yy; clear yy) | (rotate_left; (exact fun h => absurd h (by first | decide)); intro yy; clear yy) | decide | omega) | (with_reducible refine frc_bytesL (by first | omega | decide) ?_) | (with_reducible refine frc_bytesM (by first | omega | decide) ?_))
      refine call_same (fn_peek s k2) [1] rfl (by (repeat first | exact trivial | refine ent1 ?_)) (by (repeat first | exact trivial | refine ent1 ?_)) (fun _ _ => trivial) ?_
      rintro y hs' ⟨rfl, rfl⟩
      by_cases c2' : L s k2 = 44#8
      · have f1 : decide (L s k2 = 44#8) = true := decide_eq_true c2'
        obtain ⟨h1, h2⟩ := of_L c2' (by decide)
        rw [pobj_next u1 p1 (by rw [← r3]; exact h1)] at hP
        (repeat first | (refine And.intro ?_ ?_; first | exact rfl | ((exact fun h => absurd h (by first | decide | (rw [f1]; decide))); intro yy; clear yy) | (rotate_left; (exact fun h => absurd h (by first | decide | (rw [f1]; decide))); intro yy; clear yy) | decide | omega) | (with_reducible refine frc_bytesL (by first | omega | decide) ?_) | (with_reducible refine frc_bytesM (by first | omega | decide) ?_))
        refine ⟨(some ((done ++ [v]), (cs ++ flat (jvS v x)), (ns ++ [t]), c2, e2), k2 + 1, W5, ms5), [0, 1, 2, 3, 4, 9, 11], ⟨⟨rfl, rfl, rfl⟩, ?_⟩, ⟨by omega, by omega, hL.trans hL5, by rw [hdl]; omega, by rw [hdl]; exact hc2, by rw [hdl]; exact he2, by rw [hdl]; exact hnl, hrw, f, by omega, hP⟩, by dsimp only; omega⟩
        (repeat first | exact trivial | refine ent1 ?_)
        refine And.intro (fun j hj => eqJ_cs (nmL_raw _) (fun j hj => nmL_approw q6 j hj) j) ?_
        (repeat first | exact trivial | refine ent1 ?_)
        exact ⟨fun j hj => eqJ_cs hrw.raw (appJ_cs (m := 1) (sz := 4) (by rw [hlen]) (fun _ _ => rfl) rfl fun j hj => updJ_new hj) j, by (repeat first | exact trivial | refine ent1 ?_)⟩
      have f1 : decide (L s k2 = 44#8) = false := decide_eq_false c2'
      by_cases c3 : L s k2 = 125#8
      · have f2 : decide (L s k2 = 125#8) = true := decide_eq_true c3
        obtain ⟨h1, h2⟩ := of_L c3 (by decide)
        rw [pobj_end u1 p1 (by rw [← r3]; exact h1)] at hP
        (repeat first | (refine And.intro ?_ ?_; first | exact rfl | ((exact fun h => absurd h (by first | decide | (rw [f1]; decide) | (rw [f2]; decide))); intro yy; clear yy) | (rotate_left; (exact fun h => absurd h (by first | decide | (rw [f1]; decide) | (rw [f2]; decide))); intro yy; clear yy) | decide | omega) | (with_reducible refine frc_bytesL (by first | omega | decide) ?_) | (with_reducible refine frc_bytesM (by first | omega | decide) ?_))
        refine finW_frzU [0, 1] rfl (Nat.zero_lt_one) cx0_m rfl (fun W9 ms9 α hL9 hI => ?_)
        have hfz := hrw.frz (F := fun j => !memB j [0, 1]) hL9 (appJ_cs (m := 1) (sz := 4) (by rw [hlen]) (fun _ _ => rfl) rfl fun j hj => updJ_new hj) (hI 11 rfl) marks_off (n := (done.length + 1)) hdl hc2 (by omega)
        have hfn := strs_frz (l := (ns ++ [t]).map U8) (F := fun j => !memB j [0, 1]) (fun j hj => nmL_approw q6 j hj) (fun h => (hI 9 rfl h).1) (n := (done.length + 1)) (by rw [List.length_map]; exact hnl) he2 (by omega)
        refine ⟨.tup [.agg (jvS (.mk 6#8 0#64 [] (done ++ [v]) (ns ++ [t])) ⟨some ((α 11).add (0 + 0)), (done.length + 1), c2, some ((α 9).add (0 + 0)), (done.length + 1), e2⟩), .c (.int .i64 0)], [psr s (k2 + 1)], ⟨⟨rfl, rfl, rfl⟩, by (repeat first | exact trivial | refine ent1 ?_)⟩, .inl ⟨_, ⟨some ((α 11).add (0 + 0)), (done.length + 1), c2, some ((α 9).add (0 + 0)), (done.length + 1), e2⟩, k2 + 1, W9, ms9, hP, by omega, by omega, hL.trans (hL5.trans hL9), ⟨hfz, hfn⟩, rfl, rfl⟩⟩
      have f2 : decide (L s k2 = 125#8) = false := decide_eq_false c3
      (repeat first | (refine And.intro ?_ ?_; first | exact rfl | ((exact fun h => absurd h (by first | decide | (rw [f1]; decide) | (rw [f2]; decide))); intro yy; clear yy) | (rotate_left; (exact fun h => absurd h (by first | decide | (rw [f1]; decide) | (rw [f2]; decide))); intro yy; clear yy) | decide | omega) | (with_reducible refine frc_bytesL (by first | omega | decide) ?_) | (with_reducible refine frc_bytesM (by first | omega | decide) ?_))
      refine FinW.of ⟨.tup [.agg (jvS jt0 jc0), .c (.int .i64 4)], _, ⟨[0, 1], ⟨rfl, rfl, rfl⟩, by (repeat first | exact trivial | refine ent1 ?_)⟩, .inr ⟨4, jt0, jc0, k2, W5, ms5, ?_, by decide, by omega, r2, hL.trans hL5, rfl, rfl⟩⟩
      rw [hP, pobj_no u1 p1 (fun r' h => c2' (L_of (r3.trans h)).1) (fun r' h => c3 (L_of (r3.trans h)).1)]
    · refine And.intro rfl ?_
      refine And.intro (show 0 + 5 ≤ 5 by decide) ?_
      refine And.intro (show 0 + scale 1 (0 + 1) ≤ 1 by decide) ?_
      refine And.intro ⟨q5, by rw [sc1]; omega, show (done.length + 1) * 16 ≤ 140737488355328 by omega⟩ ?_
      intro e2 he2
      refine And.intro (show 0 + scale 1 (4 + 1) ≤ 5 by decide) ?_
      refine And.intro ⟨q4, by rw [sc5]; omega, show (done.length + 1) * 80 ≤ 140737488355328 by omega⟩ ?_
      intro c2 hc2
      (repeat first | (refine And.intro ?_ ?_; first | exact rfl | ((exact fun h => absurd h (by first | decide)); intro yy; clear yy) | (rotate_left; (exact fun h => absurd h (by first | decide)); intro yy; clear yy) | decide | omega) | (with_reducible refine frc_bytesL (by first | omega | decide) ?_) | (with_reducible refine frc_bytesM (by first | omega | decide) ?_))
      refine call_same (fn_blanks s k' p3 hs) [1] rfl (by (repeat first | exact trivial | refine ent1 ?_)) (by (repeat first | exact trivial | refine ent1 ?_)) (fun _ _ => trivial) ?_
      rintro y hs' ⟨k2, r1, r2, r3, rfl, rfl⟩
      (repeat first | (refine And.intro ?_ ?_; first | exact rfl | ((exact fun h => absurd h (by first | decide)); intro yy; clear yy) | (rotate_left; (exact fun h => absurd h (by first | decide)); intro yy; clear yy) | decide | omega) | (with_reducible refine frc_bytesL (by first | omega | decide) ?_) | (with_reducible refine frc_bytesM (by first | omega | decide) ?_))
      refine call_same (fn_peek s k2) [1] rfl (by (repeat first | exact trivial | refine ent1 ?_)) (by (repeat first | exact trivial | refine ent1 ?_)) (fun _ _ => trivial) ?_
      rintro y hs' ⟨rfl, rfl⟩
      by_cases c2' : L s k2 = 44#8
      · have f1 : decide (L s k2 = 44#8) = true := decide_eq_true c2'
        obtain ⟨h1, h2⟩ := of_L c2' (by decide)
        rw [pobj_next u1 p1 (by rw [← r3]; exact h1)] at hP
        (repeat first | (refine And.intro ?_ ?_; first | exact rfl | ((exact fun h => absurd h (by first | decide | (rw [f1]; decide))); intro yy; clear yy) | (rotate_left; (exact fun h => absurd h (by first | decide | (rw [f1]; decide))); intro yy; clear yy) | decide | omega) | (with_reducible refine frc_bytesL (by first | omega | decide) ?_) | (with_reducible refine frc_bytesM (by first | omega | decide) ?_))
        refine ⟨(some ((done ++ [v]), (cs ++ flat (jvS v x)), (ns ++ [t]), c2, e2), k2 + 1, W5, ms5), [0, 1, 2, 3, 4, 10, 11], ⟨⟨rfl, rfl, rfl⟩, ?_⟩, ⟨by omega, by omega, hL.trans hL5, by rw [hdl]; omega, by rw [hdl]; exact hc2, by rw [hdl]; exact he2, by rw [hdl]; exact hnl, hrw, f, by omega, hP⟩, by dsimp only; omega⟩
        (repeat first | exact trivial | refine ent1 ?_)
        refine And.intro (fun j hj => eqJ_cs (nmL_raw _) (fun j hj => nmL_approw q6 j hj) j) ?_
        (repeat first | exact trivial | refine ent1 ?_)
        exact ⟨fun j hj => eqJ_cs hrw.raw (appJ_cs (m := 1) (sz := 4) (by rw [hlen]) (fun _ _ => rfl) rfl fun j hj => updJ_new hj) j, by (repeat first | exact trivial | refine ent1 ?_)⟩
      have f1 : decide (L s k2 = 44#8) = false := decide_eq_false c2'
      by_cases c3 : L s k2 = 125#8
      · have f2 : decide (L s k2 = 125#8) = true := decide_eq_true c3
        obtain ⟨h1, h2⟩ := of_L c3 (by decide)
        rw [pobj_end u1 p1 (by rw [← r3]; exact h1)] at hP
        (repeat first | (refine And.intro ?_ ?_; first | exact rfl | ((exact fun h => absurd h (by first | decide | (rw [f1]; decide) | (rw [f2]; decide))); intro yy; clear yy) | (rotate_left; (exact fun h => absurd h (by first | decide | (rw [f1]; decide) | (rw [f2]; decide))); intro yy; clear yy) | decide | omega) | (with_reducible refine frc_bytesL (by first | omega | decide) ?_) | (with_reducible refine frc_bytesM (by first | omega | decide) ?_))
        refine finW_frzU [0, 1] rfl (Nat.zero_lt_one) cx0_m rfl (fun W9 ms9 α hL9 hI => ?_)
        have hfz := hrw.frz (F := fun j => !memB j [0, 1]) hL9 (appJ_cs (m := 1) (sz := 4) (by rw [hlen]) (fun _ _ => rfl) rfl fun j hj => updJ_new hj) (hI 11 rfl) marks_off (n := (done.length + 1)) hdl hc2 (by omega)
        have hfn := strs_frz (l := (ns ++ [t]).map U8) (F := fun j => !memB j [0, 1]) (fun j hj => nmL_approw q6 j hj) (fun h => (hI 10 rfl h).1) (n := (done.length + 1)) (by rw [List.length_map]; exact hnl) he2 (by omega)
        refine ⟨.tup [.agg (jvS (.mk 6#8 0#64 [] (done ++ [v]) (ns ++ [t])) ⟨some ((α 11).add (0 + 0)), (done.length + 1), c2, some ((α 10).add (0 + 0)), (done.length + 1), e2⟩), .c (.int .i64 0)], [psr s (k2 + 1)], ⟨⟨rfl, rfl, rfl⟩, by (repeat first | exact trivial | refine ent1 ?_)⟩, .inl ⟨_, ⟨some ((α 11).add (0 + 0)), (done.length + 1), c2, some ((α 10).add (0 + 0)), (done.length + 1), e2⟩, k2 + 1, W9, ms9, hP, by omega, by omega, hL.trans (hL5.trans hL9), ⟨hfz, hfn⟩, rfl, rfl⟩⟩
      have f2 : decide (L s k2 = 125#8) = false := decide_eq_false c3
      (repeat first | (refine And.intro ?_ ?_; first | exact rfl | ((exact fun h => absurd h (by first | decide | (rw [f1]; decide) | (rw [f2]; decide))); intro yy; clear yy) | (rotate_left; (exact fun h => absurd h (by first | decide | (rw [f1]; decide) | (rw [f2]; decide))); intro yy; clear yy) | decide | omega) | (with_reducible refine frc_bytesL (by first | omega | decide) ?_) | (with_reducible refine frc_bytesM (by first | omega | decide) ?_))
      refine FinW.of ⟨.tup [.agg (jvS jt0 jc0), .c (.int .i64 4)], _, ⟨[0, 1], ⟨rfl, rfl, rfl⟩, by (repeat first | exact trivial | refine ent1 ?_)⟩, .inr ⟨4, jt0, jc0, k2, W5, ms5, ?_, by decide, by omega, r2, hL.trans hL5, rfl, rfl⟩⟩
      rw [hP, pobj_no u1 p1 (fun r' h => c2' (L_of (r3.trans h)).1) (fun r' h => c3 (L_of (r3.trans h)).1)]
    · refine And.intro rfl ?_
      refine And.intro (show 0 + 5 ≤ 5 by decide) ?_
      refine And.intro (show 0 + scale 1 (0 + 1) ≤ 1 by decide) ?_
      refine And.intro ⟨q5, by rw [sc1]; omega, show (done.length + 1) * 16 ≤ 140737488355328 by omega⟩ ?_
      intro e2 he2
      refine And.intro (show 0 + scale 1 (4 + 1) ≤ 5 by decide) ?_
      refine And.intro ⟨q4, by rw [sc5]; omega, show (done.length + 1) * 80 ≤ 140737488355328 by omega⟩ ?_
      intro c2 hc2
      (repeat first | (refine And.intro ?_ ?_; first | exact rfl | ((exact fun h => absurd h (by first | decide)); intro yy; clear yy) | (rotate_left; (exact fun h => absurd h (by first | decide)); intro yy; clear yy) | decide | omega) | (with_reducible refine frc_bytesL (by first | omega | decide) ?_) | (with_reducible refine frc_bytesM (by first | omega | decide) ?_))
      refine call_same (fn_blanks s k' p3 hs) [1] rfl (by (repeat first | exact trivial | refine ent1 ?_)) (by (repeat first | exact trivial | refine ent1 ?_)) (fun _ _ => trivial) ?_
      rintro y hs' ⟨k2, r1, r2, r3, rfl, rfl⟩
      (repeat first | (refine And.intro ?_ ?_; first | exact rfl | ((exact fun h => absurd h (by first | decide)); intro yy; clear yy) | (rotate_left; (exact fun h => absurd h (by first | decide)); intro yy; clear yy) | decide | omega) | (with_reducible refine frc_bytesL (by first | omega | decide) ?_) | (with_reducible refine frc_bytesM (by first | omega | decide) ?_))
      refine call_same (fn_peek s k2) [1] rfl (by (repeat first | exact trivial | refine ent1 ?_)) (by (repeat first | exact trivial | refine ent1 ?_)) (fun _ _ => trivial) ?_
      rintro y hs' ⟨rfl, rfl⟩
      by_cases c2' : L s k2 = 44#8
      · have f1 : decide (L s k2 = 44#8) = true := decide_eq_true c2'
        obtain ⟨h1, h2⟩ := of_L c2' (by decide)
        rw [pobj_next u1 p1 (by rw [← r3]; exact h1)] at hP
        (repeat first | (refine And.intro ?_ ?_; first | exact rfl | ((exact fun h => absurd h (by first | decide | (rw [f1]; decide))); intro yy; clear yy) | (rotate_left; (exact fun h => absurd h (by first | decide | (rw [f1]; decide))); intro yy; clear yy) | decide | omega) | (with_reducible refine frc_bytesL (by first | omega | decide) ?_) | (with_reducible refine frc_bytesM (by first | omega | decide) ?_))
        refine ⟨(some ((done ++ [v]), (cs ++ flat (jvS v x)), (ns ++ [t]), c2, e2), k2 + 1, W5, ms5), [0, 1, 2, 3, 4, 10, 11], ⟨⟨rfl, rfl, rfl⟩, ?_⟩, ⟨by omega, by omega, hL.trans hL5, by rw [hdl]; omega, by rw [hdl]; exact hc2, by rw [hdl]; exact he2, by rw [hdl]; exact hnl, hrw, f, by omega, hP⟩, by dsimp only; omega⟩
        (repeat first | exact trivial | refine ent1 ?_)
        refine And.intro (fun j hj => eqJ_cs (nmL_raw _) (fun j hj => nmL_approw q6 j hj) j) ?_
        (repeat first | exact trivial | refine ent1 ?_)
        exact ⟨fun j hj => eqJ_cs hrw.raw (appJ_cs (m := 1) (sz := 4) (by rw [hlen]) (fun _ _ => rfl) rfl fun j hj => updJ_new hj) j, by (repeat first | exact trivial | refine ent1 ?_)⟩
      have f1 : decide (L s k2 = 44#8) = false := decide_eq_false c2'
      by_cases c3 : L s k2 = 125#8
      · have f2 : decide (L s k2 = 125#8) = true := decide_eq_true c3
        obtain ⟨h1, h2⟩ := of_L c3 (by decide)
        rw [pobj_end u1 p1 (by rw [← r3]; exact h1)] at hP
        (repeat first | (refine And.intro ?_ ?_; first | exact rfl | ((exact fun h => absurd h (by first | decide | (rw [f1]; decide) | (rw [f2]; decide))); intro yy; clear yy) | (rotate_left; (exact fun h => absurd h (by first | decide | (rw [f1]; decide) | (rw [f2]; decide))); intro yy; clear yy) | decide | omega) | (with_reducible refine frc_bytesL (by first | omega | decide) ?_) | (with_reducible refine frc_bytesM (by first | omega | decide) ?_))
        refine finW_frzU [0, 1] rfl (Nat.zero_lt_one) cx0_m rfl (fun W9 ms9 α hL9 hI => ?_)
        have hfz := hrw.frz (F := fun j => !memB j [0, 1]) hL9 (appJ_cs (m := 1) (sz := 4) (by rw [hlen]) (fun _ _ => rfl) rfl fun j hj => updJ_new hj) (hI 11 rfl) marks_off (n := (done.length + 1)) hdl hc2 (by omega)
        have hfn := strs_frz (l := (ns ++ [t]).map U8) (F := fun j => !memB j [0, 1]) (fun j hj => nmL_approw q6 j hj) (fun h => (hI 10 rfl h).1) (n := (done.length + 1)) (by rw [List.length_map]; exact hnl) he2 (by omega)
        refine ⟨.tup [.agg (jvS (.mk 6#8 0#64 [] (done ++ [v]) (ns ++ [t])) ⟨some ((α 11).add (0 + 0)), (done.length + 1), c2, some ((α 10).add (0 + 0)), (done.length + 1), e2⟩), .c (.int .i64 0)], [psr s (k2 + 1)], ⟨⟨rfl, rfl, rfl⟩, by (repeat first | exact trivial | refine ent1 ?_)⟩, .inl ⟨_, ⟨some ((α 11).add (0 + 0)), (done.length + 1), c2, some ((α 10).add (0 + 0)), (done.length + 1), e2⟩, k2 + 1, W9, ms9, hP, by omega, by omega, hL.trans (hL5.trans hL9), ⟨hfz, hfn⟩, rfl, rfl⟩⟩
      have f2 : decide (L s k2 = 125#8) = false := decide_eq_false c3
      (repeat first | (refine And.intro ?_ ?_; first | exact rfl | ((exact fun h => absurd h (by first | decide | (rw [f1]; decide) | (rw [f2]; decide))); intro yy; clear yy) | (rotate_left; (exact fun h => absurd h (by first | decide | (rw [f1]; decide) | (rw [f2]; decide))); intro yy; clear yy) | decide | omega) | (with_reducible refine frc_bytesL (by first | omega | decide) ?_) | (with_reducible refine frc_bytesM (by first | omega | decide) ?_))
      refine FinW.of ⟨.tup [.agg (jvS jt0 jc0), .c (.int .i64 4)], _, ⟨[0, 1], ⟨rfl, rfl, rfl⟩, by (repeat first | exact trivial | refine ent1 ?_)⟩, .inr ⟨4, jt0, jc0, k2, W5, ms5, ?_, by decide, by omega, r2, hL.trans hL5, rfl, rfl⟩⟩
      rw [hP, pobj_no u1 p1 (fun r' h => c2' (L_of (r3.trans h)).1) (fun r' h => c3 (L_of (r3.trans h)).1)]
end Sx
end Go.Proofs.YtnehmcpkeamghaaDoor
end

section
/-
  The reader of texts: a value; Parse. No condition.
-/
namespace Go.Proofs.YtnehmcpkeamghaaDoor
set_option linter.unusedVariables false
namespace Sx
open Go.RowKit Sha Vi Js

theorem take_lt {a p : Bs} (h : a.length < p.length) : a.take p.length ≠ p := fun e => by
  have := congrArg List.length e
  rw [List.length_take] at this
  omega
set_option maxRecDepth 20000 in
theorem fn_slPrefix (a p : Bs) (ha : a.length ≤ 1048576) (hp : p.length ≤ 1048576) : Fn Tryd.prog tds 73 [] [.c (.str (U8 a)), .c (.str (U8 p))] (fun _ => True) (fun y hs => y = .a (.c (.bool (decide (a.take p.length = p)))) ∧ hs = []) := by
  refine fn_of_body tds_ok follows_ Tryd.func73 rfl (t := .a (.c (.str (U8 a))) :: .a (.c (.str (U8 p))) :: anys (Tryd.f73.ntmps - 2)) rfl (fun w r0 hr0 _ => ?_)
  obtain rfl : r0 = [] := List.eq_nil_of_length_eq_zero hr0
  by_cases h : p.length ≤ a.length
  · have e : decide ((((U8 p).length : Nat) : Int) ≤ (((U8 a).length : Nat) : Int)) = true := decide_eq_true (by rw [U8_len, U8_len]; omega)
    (repeat first | (refine And.intro ?_ ?_; first | exact rfl | ((exact fun h => absurd h (by first | decide | (rw [e]; decide))); intro yy; clear yy) | (rotate_left; (exact fun h => absurd h (by first | decide | (rw [e]; decide))); intro yy; clear yy) | decide | omega) | (with_reducible refine frc_bytesL (by first | omega | decide) ?_) | (with_reducible refine frc_bytesM (by first | omega | decide) ?_))
    refine And.intro ⟨by omega, by omega, by rw [U8_len, U8_len]; omega⟩ ?_
    refine frcN_of (m := 0) rfl ?_
    refine frcN_of (m := (U8 p).length) (Int.toNat_natCast _) ?_
    (repeat first | (refine And.intro ?_ ?_; first | exact rfl | ((exact fun h => absurd h (by first | decide | (rw [e]; decide))); intro yy; clear yy) | (rotate_left; (exact fun h => absurd h (by first | decide | (rw [e]; decide))); intro yy; clear yy) | decide | omega) | (with_reducible refine frc_bytesL (by first | omega | decide) ?_) | (with_reducible refine frc_bytesM (by first | omega | decide) ?_))
    have hd : decide (((U8 a).drop 0).take ((U8 p).length - 0) = U8 p) = decide (a.take p.length = p) := by
      rw [List.drop_zero, Nat.sub_zero, U8_len, U8_take, U8_dj]
    refine ⟨.a (.c (.bool (decide (a.take p.length = p)))), _, ⟨[], ⟨rfl, rfl, rfl⟩, ?_⟩, rfl, rfl⟩
    exact And.intro hd (by (repeat first | exact trivial | refine ent1 ?_))
  · have e : decide ((((U8 p).length : Nat) : Int) ≤ (((U8 a).length : Nat) : Int)) = false := decide_eq_false (by rw [U8_len, U8_len]; omega)
    (repeat first | (refine And.intro ?_ ?_; first | exact rfl | ((exact fun h => absurd h (by first | decide | (rw [e]; decide))); intro yy; clear yy) | (rotate_left; (exact fun h => absurd h (by first | decide | (rw [e]; decide))); intro yy; clear yy) | decide | omega) | (with_reducible refine frc_bytesL (by first | omega | decide) ?_) | (with_reducible refine frc_bytesM (by first | omega | decide) ?_))
    refine ⟨.a (.c (.bool (decide (a.take p.length = p)))), _, ⟨[], ⟨rfl, rfl, rfl⟩, ?_⟩, rfl, rfl⟩
    exact And.intro (decide_eq_false (take_lt (by omega))).symm (by (repeat first | exact trivial | refine ent1 ?_))
set_option maxRecDepth 20000 in
theorem fn_prefix (a p : Bs) (ha : a.length ≤ 1048576) (hp : p.length ≤ 1048576) : Fn Tryd.prog tds 58 [] [.c (.str (U8 a)), .c (.str (U8 p))] (fun _ => True) (fun y hs => y = .a (.c (.bool (decide (a.take p.length = p)))) ∧ hs = []) := by
  refine fn_of_body tds_ok follows_ Tryd.func58 rfl (t := .a (.c (.str (U8 a))) :: .a (.c (.str (U8 p))) :: anys (Tryd.f58.ntmps - 2)) rfl (fun w r0 hr0 _ => ?_)
  obtain rfl : r0 = [] := List.eq_nil_of_length_eq_zero hr0
  (repeat first | (refine And.intro ?_ ?_; first | exact rfl | ((exact fun h => absurd h (by first | decide)); intro yy; clear yy) | (rotate_left; (exact fun h => absurd h (by first | decide)); intro yy; clear yy) | decide | omega) | (with_reducible refine frc_bytesL (by first | omega | decide) ?_) | (with_reducible refine frc_bytesM (by first | omega | decide) ?_))
  refine call_same (fn_slPrefix a p ha hp) [] rfl (by (repeat first | exact trivial | refine ent1 ?_)) trivial (fun _ _ => trivial) ?_
  rintro x hs' ⟨rfl, rfl⟩
  exact ⟨.a (.c (.bool (decide (a.take p.length = p)))), _, ⟨[], ⟨rfl, rfl, rfl⟩, by (repeat first | exact trivial | refine ent1 ?_)⟩, rfl, rfl⟩
theorem pone_at {kl ko : Bs → R JT} {s : Bs} {k k1 : Nat} (h : s.drop k1 = blanks (s.drop k)) :
    pone kl ko (s.drop k) = if L s k1 = 34#8 then (match text (s.drop (k1 + 1)) with
        | .bad e => .bad e
        | .ok t r => .ok (.mk 4#8 0#64 t [] []) r)
      else if isDig (L s k1) = true then (match number (s.drop k1) with
        | .bad e => .bad e
        | .ok n r => .ok (.mk 3#8 (BitVec.ofNat 64 n) [] [] []) r)
      else if L s k1 = 91#8 then kl (s.drop (k1 + 1)) else if L s k1 = 123#8 then ko (s.drop (k1 + 1)) else word (s.drop k1) := by
  unfold pone
  rw [← h]
  rcases drop_L (s := s) (k := k1) with ⟨h1, h2⟩ | ⟨h1, h2, h3⟩
  · rw [h2]
    dsimp only
    split
    · cases text (s.drop (k1 + 1)) <;> rfl
    split
    · cases number (L s k1 :: s.drop (k1 + 1)) <;> rfl
    · rfl
  · rw [h2, h3]
    rfl
/-- What is told of a value that is read, so many levels down. -/
def ValC (s : Bs) (d depth : Nat) : Prop := ∀ (W : World) (ms : List Nat) (k : Nat), Tabs W ms → k ≤ s.length → FnR Tryd.prog tds 42 1 [[.past W ms], psr s k] [.c (.p 1 0 0), .c (.int .i64 (depth : Int))] (fun _ => True) (ValA W ms d s k (pval d (s.drop k)))
set_option maxRecDepth 20000 in
set_option maxHeartbeats 32000000 in
theorem fn_value1 (s : Bs) (hs : s.length ≤ 1048576) (d depth : Nat) (hdd : depth + d = 8) (hrec : ∀ d', d = d' + 1 → ValC s d' (depth + 1)) : ValC s d depth := by
  intro W ms k hT hk
  refine fn_of_bodyW tds_ok follows_ Tryd.func42 rfl (t := .a (.c (.p 1 0 0)) :: .a (.c (.int .i64 (depth : Int))) :: anys (Tryd.f42.ntmps - 2)) rfl (fun w r0 hr0 _ => ?_)
  obtain ⟨x0, x1, rfl⟩ := len2' hr0
  (repeat first | (refine And.intro ?_ ?_; first | exact rfl | ((exact fun h => absurd h (by first | decide)); intro yy; clear yy) | (rotate_left; (exact fun h => absurd h (by first | decide)); intro yy; clear yy) | decide | omega) | (with_reducible refine frc_bytesL (by first | omega | decide) ?_) | (with_reducible refine frc_bytesM (by first | omega | decide) ?_))
  refine call_same (fn_blanks s k hk hs) [1] rfl (by (repeat first | exact trivial | refine ent1 ?_)) (by (repeat first | exact trivial | refine ent1 ?_)) (fun _ _ => trivial) ?_
  rintro x hs' ⟨k1, g1, g2, g3, rfl, rfl⟩
  (repeat first | (refine And.intro ?_ ?_; first | exact rfl | ((exact fun h => absurd h (by first | decide)); intro yy; clear yy) | (rotate_left; (exact fun h => absurd h (by first | decide)); intro yy; clear yy) | decide | omega) | (with_reducible refine frc_bytesL (by first | omega | decide) ?_) | (with_reducible refine frc_bytesM (by first | omega | decide) ?_))
  refine call_same (fn_peek s k1) [1] rfl (by (repeat first | exact trivial | refine ent1 ?_)) (by (repeat first | exact trivial | refine ent1 ?_)) (fun _ _ => trivial) ?_
  rintro x hs' ⟨rfl, rfl⟩
  obtain ⟨kl, ko, hpv, hkl⟩ : ∃ kl ko, pval d = pone kl ko ∧ ((d = 0 ∧ depth = 8 ∧ kl = (fun _ => .bad 22) ∧ ko = (fun _ => .bad 22)) ∨ ∃ d', d = d' + 1 ∧ depth < 8 ∧ kl = lists (pval d') ∧ ko = objs (pval d')) := by
    cases d with
    | zero => exact ⟨_, _, rfl, .inl ⟨rfl, by omega, rfl, rfl⟩⟩
    | succ d => exact ⟨_, _, rfl, .inr ⟨d, rfl, by omega, rfl, rfl⟩⟩
  have hP := pone_at (kl := kl) (ko := ko) g3
  rw [← hpv] at hP
  by_cases c1 : L s k1 = 34#8
  · have e1 : decide (L s k1 = 34#8) = true := decide_eq_true c1
    obtain ⟨_, h2⟩ := of_L c1 (by decide)
    rw [if_pos c1] at hP
    (repeat first | (refine And.intro ?_ ?_; first | exact rfl | ((exact fun h => absurd h (by first | decide | (rw [e1]; decide))); intro yy; clear yy) | (rotate_left; (exact fun h => absurd h (by first | decide | (rw [e1]; decide))); intro yy; clear yy) | decide | omega) | (with_reducible refine frc_bytesL (by first | omega | decide) ?_) | (with_reducible refine frc_bytesM (by first | omega | decide) ?_))
    refine call_same (fn_text hT s k1 h2 hs) [0, 1] rfl (by (repeat first | exact trivial | refine ent1 ?_)) (by (repeat first | exact trivial | refine ent1 ?_)) (fun _ _ => trivial) ?_
    rintro x hs' (⟨t, k2, q1, q2, q3, rfl, rfl⟩ | ⟨e, k2, q1, q0, q2, q3, rfl, rfl⟩)
    · rw [q1] at hP
      (repeat first | (refine And.intro ?_ ?_; first | exact rfl | ((exact fun h => absurd h (by first | decide)); intro yy; clear yy) | (rotate_left; (exact fun h => absurd h (by first | decide)); intro yy; clear yy) | decide | omega) | (with_reducible refine frc_bytesL (by first | omega | decide) ?_) | (with_reducible refine frc_bytesM (by first | omega | decide) ?_))
      exact FinW.of ⟨.tup [.agg (jvS (.mk 4#8 0#64 t [] []) jc0), .c (.int .i64 0)], _, ⟨[0, 1], ⟨rfl, rfl, rfl⟩, by (repeat first | exact trivial | refine ent1 ?_)⟩, .inl ⟨_, jc0, k2, W, ms, hP, by omega, q3, Later.refl _ _, TAt.leaf rfl rfl _, rfl, rfl⟩⟩
    · rw [q1] at hP
      (repeat first | (refine And.intro ?_ ?_; first | exact rfl | ((exact fun h => absurd h (by first | decide)); intro yy; clear yy) | (rotate_left; (exact fun h => absurd h (by first | decide)); intro yy; clear yy) | decide | omega) | (with_reducible refine frc_bytesL (by first | omega | decide) ?_) | (with_reducible refine frc_bytesM (by first | omega | decide) ?_))
      exact FinW.of ⟨.tup [.agg (jvS (.mk 4#8 0#64 [] [] []) jc0), .c (.int .i64 e)], _, ⟨[0, 1], ⟨rfl, rfl, rfl⟩, by (repeat first | exact trivial | refine ent1 ?_)⟩, .inr ⟨e, _, jc0, k2, W, ms, hP, q0, by omega, q3, Later.refl _ _, rfl, rfl⟩⟩
  have e1 : decide (L s k1 = 34#8) = false := decide_eq_false c1
  rw [if_neg c1] at hP
  by_cases c2 : isDig (L s k1) = true
  · rw [if_pos c2] at hP
    have hD := (isDig_iff (L s k1)).symm.trans c2
    rw [Bool.and_eq_true] at hD
    obtain ⟨e2, e3⟩ := hD
    (repeat first | (refine And.intro ?_ ?_; first | exact rfl | ((exact fun h => absurd h (by first | decide | (rw [e1]; decide) | (rw [e2]; decide) | (rw [e3]; decide))); intro yy; clear yy) | (rotate_left; (exact fun h => absurd h (by first | decide | (rw [e1]; decide) | (rw [e2]; decide) | (rw [e3]; decide))); intro yy; clear yy) | decide | omega) | (with_reducible refine frc_bytesL (by first | omega | decide) ?_) | (with_reducible refine frc_bytesM (by first | omega | decide) ?_))
    refine call_same (fn_number' s k1 c2 hs) [1] rfl (by (repeat first | exact trivial | refine ent1 ?_)) (by (repeat first | exact trivial | refine ent1 ?_)) (fun _ _ => trivial) ?_
    rintro x hs' (⟨n, k2, q1, q2, q3, rfl, rfl⟩ | ⟨e, v, k2, q1, q0, q2, q3, rfl, rfl⟩)
    · rw [q1] at hP
      (repeat first | (refine And.intro ?_ ?_; first | exact rfl | ((exact fun h => absurd h (by first | decide)); intro yy; clear yy) | (rotate_left; (exact fun h => absurd h (by first | decide)); intro yy; clear yy) | decide | omega) | (with_reducible refine frc_bytesL (by first | omega | decide) ?_) | (with_reducible refine frc_bytesM (by first | omega | decide) ?_))
      exact FinW.of ⟨.tup [.agg (jvS (.mk 3#8 (BitVec.ofNat 64 n) [] [] []) jc0), .c (.int .i64 0)], _, ⟨[0, 1], ⟨rfl, rfl, rfl⟩, by (repeat first | exact trivial | refine ent1 ?_)⟩, .inl ⟨_, jc0, k2, W, ms, hP, by omega, q3, Later.refl _ _, TAt.leaf rfl rfl _, rfl, rfl⟩⟩
    · rw [q1] at hP
      (repeat first | (refine And.intro ?_ ?_; first | exact rfl | ((exact fun h => absurd h (by first | decide)); intro yy; clear yy) | (rotate_left; (exact fun h => absurd h (by first | decide)); intro yy; clear yy) | decide | omega) | (with_reducible refine frc_bytesL (by first | omega | decide) ?_) | (with_reducible refine frc_bytesM (by first | omega | decide) ?_))
      exact FinW.of ⟨.tup [.agg (jvS (.mk 3#8 v [] [] []) jc0), .c (.int .i64 e)], _, ⟨[0, 1], ⟨rfl, rfl, rfl⟩, by (repeat first | exact trivial | refine ent1 ?_)⟩, .inr ⟨e, _, jc0, k2, W, ms, hP, q0, by omega, q3, Later.refl _ _, rfl, rfl⟩⟩
  rw [if_neg c2] at hP
  rw [Bool.not_eq_true] at c2
  have hD := (isDig_iff (L s k1)).symm.trans c2
  by_cases c4 : L s k1 = 91#8
  · have fc4 : decide (L s k1 = 91#8) = true := decide_eq_true c4
    obtain ⟨_, h2⟩ := of_L c4 (by decide)
    rw [if_pos c4] at hP
    have e2 : decide (48#8 ≤ L s k1) = true := by rw [c4]; decide
    have e3 : decide (L s k1 ≤ 57#8) = false := by rw [c4]; decide
    rcases hkl with ⟨rfl, rfl, rfl, rfl⟩ | ⟨d', rfl, hlt, rfl, rfl⟩
    · (repeat first | (refine And.intro ?_ ?_; first | exact rfl | ((exact fun h => absurd h (by first | decide | (rw [e1]; decide) | (rw [e2]; decide) | (rw [e3]; decide) | (rw [fc4]; decide))); intro yy; clear yy) | (rotate_left; (exact fun h => absurd h (by first | decide | (rw [e1]; decide) | (rw [e2]; decide) | (rw [e3]; decide) | (rw [fc4]; decide))); intro yy; clear yy) | decide | omega) | (with_reducible refine frc_bytesL (by first | omega | decide) ?_) | (with_reducible refine frc_bytesM (by first | omega | decide) ?_))
      exact FinW.of ⟨.tup [.agg (jvS jt0 jc0), .c (.int .i64 22)], _, ⟨[0, 1], ⟨rfl, rfl, rfl⟩, by (repeat first | exact trivial | refine ent1 ?_)⟩, .inr ⟨22, jt0, jc0, k1, W, ms, hP, by decide, g1, g2, Later.refl _ _, rfl, rfl⟩⟩
    · have e8 : decide ((8 : Int) ≤ (depth : Int)) = false := decide_eq_false (by omega)
      (repeat first | (refine And.intro ?_ ?_; first | exact rfl | ((exact fun h => absurd h (by first | decide | (rw [e1]; decide) | (rw [e2]; decide) | (rw [e3]; decide) | (rw [fc4]; decide) | (rw [e8]; decide))); intro yy; clear yy) | (rotate_left; (exact fun h => absurd h (by first | decide | (rw [e1]; decide) | (rw [e2]; decide) | (rw [e3]; decide) | (rw [fc4]; decide) | (rw [e8]; decide))); intro yy; clear yy) | decide | omega) | (with_reducible refine frc_bytesL (by first | omega | decide) ?_) | (with_reducible refine frc_bytesM (by first | omega | decide) ?_))
      refine call_past (fn_list hT d' depth (by omega) s hs (hrec d' rfl) k1 h2) 0 [1] rfl rfl (by (repeat first | exact trivial | refine ent1 ?_)) (by (repeat first | exact trivial | refine ent1 ?_)) (fun _ _ => trivial) (fun x hs hr => ?_) ?_
      · rcases hr with ⟨v, x, k', W5, ms5, _, _, _, hL5, _, _, rfl⟩ | ⟨e, v, x, k', W5, ms5, _, _, _, _, hL5, _, rfl⟩
        · exact ⟨W5, ms5, rfl, hL5⟩
        · exact ⟨W5, ms5, rfl, hL5⟩
      rintro y hs' (⟨v, x, k', W5, ms5, p1, p2, p3, hL5, hx5, rfl, rfl⟩ | ⟨e, v, x, k', W5, ms5, p1, p0, p2, p3, hL5, rfl, rfl⟩)
      · (repeat first | (refine And.intro ?_ ?_; first | exact rfl | ((exact fun h => absurd h (by first | decide)); intro yy; clear yy) | (rotate_left; (exact fun h => absurd h (by first | decide)); intro yy; clear yy) | decide | omega) | (with_reducible refine frc_bytesL (by first | omega | decide) ?_) | (with_reducible refine frc_bytesM (by first | omega | decide) ?_))
        exact FinW.of ⟨.tup [.agg (jvS v x), .c (.int .i64 0)], _, ⟨[0, 1], ⟨rfl, rfl, rfl⟩, by (repeat first | exact trivial | refine ent1 ?_)⟩, .inl ⟨v, x, k', W5, ms5, hP.trans p1, by omega, p3, hL5, hx5, rfl, rfl⟩⟩
      · (repeat first | (refine And.intro ?_ ?_; first | exact rfl | ((exact fun h => absurd h (by first | decide)); intro yy; clear yy) | (rotate_left; (exact fun h => absurd h (by first | decide)); intro yy; clear yy) | decide | omega) | (with_reducible refine frc_bytesL (by first | omega | decide) ?_) | (with_reducible refine frc_bytesM (by first | omega | decide) ?_))
        exact FinW.of ⟨.tup [.agg (jvS v x), .c (.int .i64 e)], _, ⟨[0, 1], ⟨rfl, rfl, rfl⟩, by (repeat first | exact trivial | refine ent1 ?_)⟩, .inr ⟨e, v, x, k', W5, ms5, hP.trans p1, p0, by omega, p3, hL5, rfl, rfl⟩⟩
  have fc4 : decide (L s k1 = 91#8) = false := decide_eq_false c4
  by_cases c5 : L s k1 = 123#8
  · have fc5 : decide (L s k1 = 123#8) = true := decide_eq_true c5
    obtain ⟨_, h2⟩ := of_L c5 (by decide)
    rw [if_neg c4, if_pos c5] at hP
    have e2 : decide (48#8 ≤ L s k1) = true := by rw [c5]; decide
    have e3 : decide (L s k1 ≤ 57#8) = false := by rw [c5]; decide
    rcases hkl with ⟨rfl, rfl, rfl, rfl⟩ | ⟨d', rfl, hlt, rfl, rfl⟩
    · (repeat first | (refine And.intro ?_ ?_; first | exact rfl | ((exact fun h => absurd h (by first | decide | (rw [e1]; decide) | (rw [e2]; decide) | (rw [e3]; decide) | (rw [fc4]; decide) | (rw [fc5]; decide))); intro yy; clear yy) | (rotate_left; (exact fun h => absurd h (by first | decide | (rw [e1]; decide) | (rw [e2]; decide) | (rw [e3]; decide) | (rw [fc4]; decide) | (rw [fc5]; decide))); intro yy; clear yy) | decide | omega) | (with_reducible refine frc_bytesL (by first | omega | decide) ?_) | (with_reducible refine frc_bytesM (by first | omega | decide) ?_))
      exact FinW.of ⟨.tup [.agg (jvS jt0 jc0), .c (.int .i64 22)], _, ⟨[0, 1], ⟨rfl, rfl, rfl⟩, by (repeat first | exact trivial | refine ent1 ?_)⟩, .inr ⟨22, jt0, jc0, k1, W, ms, hP, by decide, g1, g2, Later.refl _ _, rfl, rfl⟩⟩
    · have e8 : decide ((8 : Int) ≤ (depth : Int)) = false := decide_eq_false (by omega)
      (repeat first | (refine And.intro ?_ ?_; first | exact rfl | ((exact fun h => absurd h (by first | decide | (rw [e1]; decide) | (rw [e2]; decide) | (rw [e3]; decide) | (rw [fc4]; decide) | (rw [fc5]; decide) | (rw [e8]; decide))); intro yy; clear yy) | (rotate_left; (exact fun h => absurd h (by first | decide | (rw [e1]; decide) | (rw [e2]; decide) | (rw [e3]; decide) | (rw [fc4]; decide) | (rw [fc5]; decide) | (rw [e8]; decide))); intro yy; clear yy) | decide | omega) | (with_reducible refine frc_bytesL (by first | omega | decide) ?_) | (with_reducible refine frc_bytesM (by first | omega | decide) ?_))
      refine call_past (fn_object hT d' depth (by omega) s hs (hrec d' rfl) k1 h2) 0 [1] rfl rfl (by (repeat first | exact trivial | refine ent1 ?_)) (by (repeat first | exact trivial | refine ent1 ?_)) (fun _ _ => trivial) (fun x hs hr => ?_) ?_
      · rcases hr with ⟨v, x, k', W5, ms5, _, _, _, hL5, _, _, rfl⟩ | ⟨e, v, x, k', W5, ms5, _, _, _, _, hL5, _, rfl⟩
        · exact ⟨W5, ms5, rfl, hL5⟩
        · exact ⟨W5, ms5, rfl, hL5⟩
      rintro y hs' (⟨v, x, k', W5, ms5, p1, p2, p3, hL5, hx5, rfl, rfl⟩ | ⟨e, v, x, k', W5, ms5, p1, p0, p2, p3, hL5, rfl, rfl⟩)
      · (repeat first | (refine And.intro ?_ ?_; first | exact rfl | ((exact fun h => absurd h (by first | decide)); intro yy; clear yy) | (rotate_left; (exact fun h => absurd h (by first | decide)); intro yy; clear yy) | decide | omega) | (with_reducible refine frc_bytesL (by first | omega | decide) ?_) | (with_reducible refine frc_bytesM (by first | omega | decide) ?_))
        exact FinW.of ⟨.tup [.agg (jvS v x), .c (.int .i64 0)], _, ⟨[0, 1], ⟨rfl, rfl, rfl⟩, by (repeat first | exact trivial | refine ent1 ?_)⟩, .inl ⟨v, x, k', W5, ms5, hP.trans p1, by omega, p3, hL5, hx5, rfl, rfl⟩⟩
      · (repeat first | (refine And.intro ?_ ?_; first | exact rfl | ((exact fun h => absurd h (by first | decide)); intro yy; clear yy) | (rotate_left; (exact fun h => absurd h (by first | decide)); intro yy; clear yy) | decide | omega) | (with_reducible refine frc_bytesL (by first | omega | decide) ?_) | (with_reducible refine frc_bytesM (by first | omega | decide) ?_))
        exact FinW.of ⟨.tup [.agg (jvS v x), .c (.int .i64 e)], _, ⟨[0, 1], ⟨rfl, rfl, rfl⟩, by (repeat first | exact trivial | refine ent1 ?_)⟩, .inr ⟨e, v, x, k', W5, ms5, hP.trans p1, p0, by omega, p3, hL5, rfl, rfl⟩⟩
  have fc5 : decide (L s k1 = 123#8) = false := decide_eq_false c5
  rw [if_neg c4, if_neg c5] at hP
  have hwl : (s.drop k1).length ≤ 1048576 := by rw [List.length_drop]; omega
  have hPw := hP
  unfold word at hPw
  rcases e2 : decide (48#8 ≤ L s k1) with _ | _
  · (repeat first | (refine And.intro ?_ ?_; first | exact rfl | ((exact fun h => absurd h (by first | decide | (rw [e1]; decide) | (rw [e2]; decide) | (rw [fc4]; decide) | (rw [fc5]; decide))); intro yy; clear yy) | (rotate_left; (exact fun h => absurd h (by first | decide | (rw [e1]; decide) | (rw [e2]; decide) | (rw [fc4]; decide) | (rw [fc5]; decide))); intro yy; clear yy) | decide | omega) | (with_reducible refine frc_bytesL (by first | omega | decide) ?_) | (with_reducible refine frc_bytesM (by first | omega | decide) ?_))
    refine .inr ⟨4, ?_⟩
    (repeat first | (refine And.intro ?_ ?_; first | exact rfl | ((exact fun h => absurd h (by first | decide)); intro yy; clear yy) | (rotate_left; (exact fun h => absurd h (by first | decide)); intro yy; clear yy) | decide | omega) | (with_reducible refine frc_bytesL (by first | omega | decide) ?_) | (with_reducible refine frc_bytesM (by first | omega | decide) ?_))
    refine ⟨none, [], [(0, true), (1, true), (2, true), (3, true), (4, true), (5, true), (6, true), (7, true), (8, true), (9, true), (10, false)], [], by kernel_rfl, ?_⟩
    (repeat first | (refine And.intro ?_ ?_; first | exact rfl | ((exact fun h => absurd h (by first | decide)); intro yy; clear yy) | (rotate_left; (exact fun h => absurd h (by first | decide)); intro yy; clear yy) | decide | omega) | (with_reducible refine frc_bytesL (by first | omega | decide) ?_) | (with_reducible refine frc_bytesM (by first | omega | decide) ?_))
    refine And.intro ⟨by omega, by rw [U8_len]; omega, by omega⟩ ?_
    refine frcN_of (m := k1) (Int.toNat_natCast k1) ?_
    refine frcN_of (m := (U8 s).length) (Int.toNat_natCast _) ?_
    (repeat first | (refine And.intro ?_ ?_; first | exact rfl | ((exact fun h => absurd h (by first | decide)); intro yy; clear yy) | (rotate_left; (exact fun h => absurd h (by first | decide)); intro yy; clear yy) | decide | omega) | (with_reducible refine frc_bytesL (by first | omega | decide) ?_) | (with_reducible refine frc_bytesM (by first | omega | decide) ?_))
    refine call_same (fn_prefix (s.drop k1) [110#8, 117#8, 108#8, 108#8] hwl (by decide)) [] rfl (by exact And.intro (U8_rest s k1) (And.intro rfl trivial)) trivial (fun _ _ => trivial) ?_
    rintro x hs' ⟨rfl, rfl⟩
    by_cases w0 : (s.drop k1).take 4 = [110#8, 117#8, 108#8, 108#8]
    · have h0 : decide ((s.drop k1).take ([110#8, 117#8, 108#8, 108#8] : Bs).length = [110#8, 117#8, 108#8, 108#8]) = true := decide_eq_true w0
      rw [if_pos w0] at hPw
      have hk9 : k1 + 4 ≤ s.length := by have := congrArg List.length w0; rw [List.length_take, List.length_drop] at this; simp only [List.length_cons, List.length_nil] at this; omega
      (repeat first | (refine And.intro ?_ ?_; first | exact rfl | ((exact fun h => absurd h (by first | decide | (rw [h0]; decide))); intro yy; clear yy) | (rotate_left; (exact fun h => absurd h (by first | decide | (rw [h0]; decide))); intro yy; clear yy) | decide | omega) | (with_reducible refine frc_bytesL (by first | omega | decide) ?_) | (with_reducible refine frc_bytesM (by first | omega | decide) ?_))
      refine And.intro (show -9223372036854775808 ≤ (k1 : Int) + ((4 : Nat) : Int) ∧ (k1 : Int) + ((4 : Nat) : Int) ≤ 9223372036854775807 by omega) ?_
      (repeat first | (refine And.intro ?_ ?_; first | exact rfl | ((exact fun h => absurd h (by first | decide)); intro yy; clear yy) | (rotate_left; (exact fun h => absurd h (by first | decide)); intro yy; clear yy) | decide | omega) | (with_reducible refine frc_bytesL (by first | omega | decide) ?_) | (with_reducible refine frc_bytesM (by first | omega | decide) ?_))
      exact FinW.of ⟨.tup [.agg (jvS (.mk 0#8 0#64 [] [] []) jc0), .c (.int .i64 0)], _, ⟨[0, 1], ⟨rfl, rfl, rfl⟩, by (repeat first | exact trivial | refine ent1 ?_)⟩, .inl ⟨_, jc0, k1 + 4, W, ms, by rw [hPw, List.drop_drop], by omega, hk9, Later.refl _ _, TAt.leaf rfl rfl _, rfl, rfl⟩⟩
    have h0 : decide ((s.drop k1).take ([110#8, 117#8, 108#8, 108#8] : Bs).length = [110#8, 117#8, 108#8, 108#8]) = false := decide_eq_false w0
    rw [if_neg w0] at hPw
    (repeat first | (refine And.intro ?_ ?_; first | exact rfl | ((exact fun h => absurd h (by first | decide | (rw [h0]; decide))); intro yy; clear yy) | (rotate_left; (exact fun h => absurd h (by first | decide | (rw [h0]; decide))); intro yy; clear yy) | decide | omega) | (with_reducible refine frc_bytesL (by first | omega | decide) ?_) | (with_reducible refine frc_bytesM (by first | omega | decide) ?_))
    (repeat first | (refine And.intro ?_ ?_; first | exact rfl | ((exact fun h => absurd h (by first | decide)); intro yy; clear yy) | (rotate_left; (exact fun h => absurd h (by first | decide)); intro yy; clear yy) | decide | omega) | (with_reducible refine frc_bytesL (by first | omega | decide) ?_) | (with_reducible refine frc_bytesM (by first | omega | decide) ?_))
    refine ⟨none, [], [(0, true), (1, true), (2, true), (3, true), (4, true), (5, true), (6, true), (7, true), (8, true), (9, true), (10, false)], [], by kernel_rfl, ?_⟩
    (repeat first | (refine And.intro ?_ ?_; first | exact rfl | ((exact fun h => absurd h (by first | decide)); intro yy; clear yy) | (rotate_left; (exact fun h => absurd h (by first | decide)); intro yy; clear yy) | decide | omega) | (with_reducible refine frc_bytesL (by first | omega | decide) ?_) | (with_reducible refine frc_bytesM (by first | omega | decide) ?_))
    refine And.intro ⟨by omega, by rw [U8_len]; omega, by omega⟩ ?_
    refine frcN_of (m := k1) (Int.toNat_natCast k1) ?_
    refine frcN_of (m := (U8 s).length) (Int.toNat_natCast _) ?_
    (repeat first | (refine And.intro ?_ ?_; first | exact rfl | ((exact fun h => absurd h (by first | decide)); intro yy; clear yy) | (rotate_left; (exact fun h => absurd h (by first | decide)); intro yy; clear yy) | decide | omega) | (with_reducible refine frc_bytesL (by first | omega | decide) ?_) | (with_reducible refine frc_bytesM (by first | omega | decide) ?_))
    refine call_same (fn_prefix (s.drop k1) [102#8, 97#8, 108#8, 115#8, 101#8] hwl (by decide)) [] rfl (by exact And.intro (U8_rest s k1) (And.intro rfl trivial)) trivial (fun _ _ => trivial) ?_
    rintro x hs' ⟨rfl, rfl⟩
    by_cases w1 : (s.drop k1).take 5 = [102#8, 97#8, 108#8, 115#8, 101#8]
    · have h1 : decide ((s.drop k1).take ([102#8, 97#8, 108#8, 115#8, 101#8] : Bs).length = [102#8, 97#8, 108#8, 115#8, 101#8]) = true := decide_eq_true w1
      rw [if_pos w1] at hPw
      have hk9 : k1 + 5 ≤ s.length := by have := congrArg List.length w1; rw [List.length_take, List.length_drop] at this; simp only [List.length_cons, List.length_nil] at this; omega
      (repeat first | (refine And.intro ?_ ?_; first | exact rfl | ((exact fun h => absurd h (by first | decide | (rw [h1]; decide))); intro yy; clear yy) | (rotate_left; (exact fun h => absurd h (by first | decide | (rw [h1]; decide))); intro yy; clear yy) | decide | omega) | (with_reducible refine frc_bytesL (by first | omega | decide) ?_) | (with_reducible refine frc_bytesM (by first | omega | decide) ?_))
      refine And.intro (show -9223372036854775808 ≤ (k1 : Int) + ((5 : Nat) : Int) ∧ (k1 : Int) + ((5 : Nat) : Int) ≤ 9223372036854775807 by omega) ?_
      (repeat first | (refine And.intro ?_ ?_; first | exact rfl | ((exact fun h => absurd h (by first | decide)); intro yy; clear yy) | (rotate_left; (exact fun h => absurd h (by first | decide)); intro yy; clear yy) | decide | omega) | (with_reducible refine frc_bytesL (by first | omega | decide) ?_) | (with_reducible refine frc_bytesM (by first | omega | decide) ?_))
      exact FinW.of ⟨.tup [.agg (jvS (.mk 1#8 0#64 [] [] []) jc0), .c (.int .i64 0)], _, ⟨[0, 1], ⟨rfl, rfl, rfl⟩, by (repeat first | exact trivial | refine ent1 ?_)⟩, .inl ⟨_, jc0, k1 + 5, W, ms, by rw [hPw, List.drop_drop], by omega, hk9, Later.refl _ _, TAt.leaf rfl rfl _, rfl, rfl⟩⟩
    have h1 : decide ((s.drop k1).take ([102#8, 97#8, 108#8, 115#8, 101#8] : Bs).length = [102#8, 97#8, 108#8, 115#8, 101#8]) = false := decide_eq_false w1
    rw [if_neg w1] at hPw
    (repeat first | (refine And.intro ?_ ?_; first | exact rfl | ((exact fun h => absurd h (by first | decide | (rw [h1]; decide))); intro yy; clear yy) | (rotate_left; (exact fun h => absurd h (by first | decide | (rw [h1]; decide))); intro yy; clear yy) | decide | omega) | (with_reducible refine frc_bytesL (by first | omega | decide) ?_) | (with_reducible refine frc_bytesM (by first | omega | decide) ?_))
    (repeat first | (refine And.intro ?_ ?_; first | exact rfl | ((exact fun h => absurd h (by first | decide)); intro yy; clear yy) | (rotate_left; (exact fun h => absurd h (by first | decide)); intro yy; clear yy) | decide | omega) | (with_reducible refine frc_bytesL (by first | omega | decide) ?_) | (with_reducible refine frc_bytesM (by first | omega | decide) ?_))
    refine ⟨none, [], [(0, true), (1, true), (2, true), (3, true), (4, true), (5, true), (6, true), (7, true), (8, true), (9, true), (10, false)], [], by kernel_rfl, ?_⟩
    (repeat first | (refine And.intro ?_ ?_; first | exact rfl | ((exact fun h => absurd h (by first | decide)); intro yy; clear yy) | (rotate_left; (exact fun h => absurd h (by first | decide)); intro yy; clear yy) | decide | omega) | (with_reducible refine frc_bytesL (by first | omega | decide) ?_) | (with_reducible refine frc_bytesM (by first | omega | decide) ?_))
    refine And.intro ⟨by omega, by rw [U8_len]; omega, by omega⟩ ?_
    refine frcN_of (m := k1) (Int.toNat_natCast k1) ?_
    refine frcN_of (m := (U8 s).length) (Int.toNat_natCast _) ?_
    (repeat first | (refine And.intro ?_ ?_; first | exact rfl | ((exact fun h => absurd h (by first | decide)); intro yy; clear yy) | (rotate_left; (exact fun h => absurd h (by first | decide)); intro yy; clear yy) | decide | omega) | (with_reducible refine frc_bytesL (by first | omega | decide) ?_) | (with_reducible refine frc_bytesM (by first | omega | decide) ?_))
    refine call_same (fn_prefix (s.drop k1) [116#8, 114#8, 117#8, 101#8] hwl (by decide)) [] rfl (by exact And.intro (U8_rest s k1) (And.intro rfl trivial)) trivial (fun _ _ => trivial) ?_
    rintro x hs' ⟨rfl, rfl⟩
    by_cases w2 : (s.drop k1).take 4 = [116#8, 114#8, 117#8, 101#8]
    · have h2 : decide ((s.drop k1).take ([116#8, 114#8, 117#8, 101#8] : Bs).length = [116#8, 114#8, 117#8, 101#8]) = true := decide_eq_true w2
      rw [if_pos w2] at hPw
      have hk9 : k1 + 4 ≤ s.length := by have := congrArg List.length w2; rw [List.length_take, List.length_drop] at this; simp only [List.length_cons, List.length_nil] at this; omega
      (repeat first | (refine And.intro ?_ ?_; first | exact rfl | ((exact fun h => absurd h (by first | decide | (rw [h2]; decide))); intro yy; clear yy) | (rotate_left; (exact fun h => absurd h (by first | decide | (rw [h2]; decide))); intro yy; clear yy) | decide | omega) | (with_reducible refine frc_bytesL (by first | omega | decide) ?_) | (with_reducible refine frc_bytesM (by first | omega | decide) ?_))
      refine And.intro (show -9223372036854775808 ≤ (k1 : Int) + ((4 : Nat) : Int) ∧ (k1 : Int) + ((4 : Nat) : Int) ≤ 9223372036854775807 by omega) ?_
      (repeat first | (refine And.intro ?_ ?_; first | exact rfl | ((exact fun h => absurd h (by first | decide)); intro yy; clear yy) | (rotate_left; (exact fun h => absurd h (by first | decide)); intro yy; clear yy) | decide | omega) | (with_reducible refine frc_bytesL (by first | omega | decide) ?_) | (with_reducible refine frc_bytesM (by first | omega | decide) ?_))
      exact FinW.of ⟨.tup [.agg (jvS (.mk 2#8 0#64 [] [] []) jc0), .c (.int .i64 0)], _, ⟨[0, 1], ⟨rfl, rfl, rfl⟩, by (repeat first | exact trivial | refine ent1 ?_)⟩, .inl ⟨_, jc0, k1 + 4, W, ms, by rw [hPw, List.drop_drop], by omega, hk9, Later.refl _ _, TAt.leaf rfl rfl _, rfl, rfl⟩⟩
    have h2 : decide ((s.drop k1).take ([116#8, 114#8, 117#8, 101#8] : Bs).length = [116#8, 114#8, 117#8, 101#8]) = false := decide_eq_false w2
    rw [if_neg w2] at hPw
    (repeat first | (refine And.intro ?_ ?_; first | exact rfl | ((exact fun h => absurd h (by first | decide | (rw [h2]; decide))); intro yy; clear yy) | (rotate_left; (exact fun h => absurd h (by first | decide | (rw [h2]; decide))); intro yy; clear yy) | decide | omega) | (with_reducible refine frc_bytesL (by first | omega | decide) ?_) | (with_reducible refine frc_bytesM (by first | omega | decide) ?_))
    exact FinW.of ⟨.tup [.agg (jvS jt0 jc0), .c (.int .i64 23)], _, ⟨[0, 1], ⟨rfl, rfl, rfl⟩, by (repeat first | exact trivial | refine ent1 ?_)⟩, .inr ⟨23, jt0, jc0, k1, W, ms, hPw, by decide, g1, g2, Later.refl _ _, rfl, rfl⟩⟩
  · rw [e2] at hD
    have e3 : decide (L s k1 ≤ 57#8) = false := hD
    (repeat first | (refine And.intro ?_ ?_; first | exact rfl | ((exact fun h => absurd h (by first | decide | (rw [e1]; decide) | (rw [e2]; decide) | (rw [e3]; decide) | (rw [fc4]; decide) | (rw [fc5]; decide))); intro yy; clear yy) | (rotate_left; (exact fun h => absurd h (by first | decide | (rw [e1]; decide) | (rw [e2]; decide) | (rw [e3]; decide) | (rw [fc4]; decide) | (rw [fc5]; decide))); intro yy; clear yy) | decide | omega) | (with_reducible refine frc_bytesL (by first | omega | decide) ?_) | (with_reducible refine frc_bytesM (by first | omega | decide) ?_))
    refine .inr ⟨4, ?_⟩
    (repeat first | (refine And.intro ?_ ?_; first | exact rfl | ((exact fun h => absurd h (by first | decide)); intro yy; clear yy) | (rotate_left; (exact fun h => absurd h (by first | decide)); intro yy; clear yy) | decide | omega) | (with_reducible refine frc_bytesL (by first | omega | decide) ?_) | (with_reducible refine frc_bytesM (by first | omega | decide) ?_))
    refine ⟨none, [], [(0, true), (1, true), (2, true), (3, true), (4, true), (5, true), (6, true), (7, true), (8, true), (9, true), (10, false)], [], by kernel_rfl, ?_⟩
    (repeat first | (refine And.intro ?_ ?_; first | exact rfl | ((exact fun h => absurd h (by first | decide)); intro yy; clear yy) | (rotate_left; (exact fun h => absurd h (by first | decide)); intro yy; clear yy) | decide | omega) | (with_reducible refine frc_bytesL (by first | omega | decide) ?_) | (with_reducible refine frc_bytesM (by first | omega | decide) ?_))
    refine And.intro ⟨by omega, by rw [U8_len]; omega, by omega⟩ ?_
    refine frcN_of (m := k1) (Int.toNat_natCast k1) ?_
    refine frcN_of (m := (U8 s).length) (Int.toNat_natCast _) ?_
    (repeat first | (refine And.intro ?_ ?_; first | exact rfl | ((exact fun h => absurd h (by first | decide)); intro yy; clear yy) | (rotate_left; (exact fun h => absurd h (by first | decide)); intro yy; clear yy) | decide | omega) | (with_reducible refine frc_bytesL (by first | omega | decide) ?_) | (with_reducible refine frc_bytesM (by first | omega | decide) ?_))
    refine call_same (fn_prefix (s.drop k1) [110#8, 117#8, 108#8, 108#8] hwl (by decide)) [] rfl (by exact And.intro (U8_rest s k1) (And.intro rfl trivial)) trivial (fun _ _ => trivial) ?_
    rintro x hs' ⟨rfl, rfl⟩
    by_cases w0 : (s.drop k1).take 4 = [110#8, 117#8, 108#8, 108#8]
    · have h0 : decide ((s.drop k1).take ([110#8, 117#8, 108#8, 108#8] : Bs).length = [110#8, 117#8, 108#8, 108#8]) = true := decide_eq_true w0
      rw [if_pos w0] at hPw
      have hk9 : k1 + 4 ≤ s.length := by have := congrArg List.length w0; rw [List.length_take, List.length_drop] at this; simp only [List.length_cons, List.length_nil] at this; omega
      (repeat first | (refine And.intro ?_ ?_; first | exact rfl | ((exact fun h => absurd h (by first | decide | (rw [h0]; decide))); intro yy; clear yy) | (rotate_left; (exact fun h => absurd h (by first | decide | (rw [h0]; decide))); intro yy; clear yy) | decide | omega) | (with_reducible refine frc_bytesL (by first | omega | decide) ?_) | (with_reducible refine frc_bytesM (by first | omega | decide) ?_))
      refine And.intro (show -9223372036854775808 ≤ (k1 : Int) + ((4 : Nat) : Int) ∧ (k1 : Int) + ((4 : Nat) : Int) ≤ 9223372036854775807 by omega) ?_
      (repeat first | (refine And.intro ?_ ?_; first | exact rfl | ((exact fun h => absurd h (by first | decide)); intro yy; clear yy) | (rotate_left; (exact fun h => absurd h (by first | decide)); intro yy; clear yy) | decide | omega) | (with_reducible refine frc_bytesL (by first | omega | decide) ?_) | (with_reducible refine frc_bytesM (by first | omega | decide) ?_))
      exact FinW.of ⟨.tup [.agg (jvS (.mk 0#8 0#64 [] [] []) jc0), .c (.int .i64 0)], _, ⟨[0, 1], ⟨rfl, rfl, rfl⟩, by (repeat first | exact trivial | refine ent1 ?_)⟩, .inl ⟨_, jc0, k1 + 4, W, ms, by rw [hPw, List.drop_drop], by omega, hk9, Later.refl _ _, TAt.leaf rfl rfl _, rfl, rfl⟩⟩
    have h0 : decide ((s.drop k1).take ([110#8, 117#8, 108#8, 108#8] : Bs).length = [110#8, 117#8, 108#8, 108#8]) = false := decide_eq_false w0
    rw [if_neg w0] at hPw
    (repeat first | (refine And.intro ?_ ?_; first | exact rfl | ((exact fun h => absurd h (by first | decide | (rw [h0]; decide))); intro yy; clear yy) | (rotate_left; (exact fun h => absurd h (by first | decide | (rw [h0]; decide))); intro yy; clear yy) | decide | omega) | (with_reducible refine frc_bytesL (by first | omega | decide) ?_) | (with_reducible refine frc_bytesM (by first | omega | decide) ?_))
    (repeat first | (refine And.intro ?_ ?_; first | exact rfl | ((exact fun h => absurd h (by first | decide)); intro yy; clear yy) | (rotate_left; (exact fun h => absurd h (by first | decide)); intro yy; clear yy) | decide | omega) | (with_reducible refine frc_bytesL (by first | omega | decide) ?_) | (with_reducible refine frc_bytesM (by first | omega | decide) ?_))
    refine ⟨none, [], [(0, true), (1, true), (2, true), (3, true), (4, true), (5, true), (6, true), (7, true), (8, true), (9, true), (10, false)], [], by kernel_rfl, ?_⟩
    (repeat first | (refine And.intro ?_ ?_; first | exact rfl | ((exact fun h => absurd h (by first | decide)); intro yy; clear yy) | (rotate_left; (exact fun h => absurd h (by first | decide)); intro yy; clear yy) | decide | omega) | (with_reducible refine frc_bytesL (by first | omega | decide) ?_) | (with_reducible refine frc_bytesM (by first | omega | decide) ?_))
    refine And.intro ⟨by omega, by rw [U8_len]; omega, by omega⟩ ?_
    refine frcN_of (m := k1) (Int.toNat_natCast k1) ?_
    refine frcN_of (m := (U8 s).length) (Int.toNat_natCast _) ?_
    (repeat first | (refine And.intro ?_ ?_; first | exact rfl | ((exact fun h => absurd h (by first | decide)); intro yy; clear yy) | (rotate_left; (exact fun h => absurd h (by first | decide)); intro yy; clear yy) | decide | omega) | (with_reducible refine frc_bytesL (by first | omega | decide) ?_) | (with_reducible refine frc_bytesM (by first | omega | decide) ?_))
    refine call_same (fn_prefix (s.drop k1) [102#8, 97#8, 108#8, 115#8, 101#8] hwl (by decide)) [] rfl (by exact And.intro (U8_rest s k1) (And.intro rfl trivial)) trivial (fun _ _ => trivial) ?_
    rintro x hs' ⟨rfl, rfl⟩
    by_cases w1 : (s.drop k1).take 5 = [102#8, 97#8, 108#8, 115#8, 101#8]
    · have h1 : decide ((s.drop k1).take ([102#8, 97#8, 108#8, 115#8, 101#8] : Bs).length = [102#8, 97#8, 108#8, 115#8, 101#8]) = true := decide_eq_true w1
      rw [if_pos w1] at hPw
      have hk9 : k1 + 5 ≤ s.length := by have := congrArg List.length w1; rw [List.length_take, List.length_drop] at this; simp only [List.length_cons, List.length_nil] at this; omega
      (repeat first | (refine And.intro ?_ ?_; first | exact rfl | ((exact fun h => absurd h (by first | decide | (rw [h1]; decide))); intro yy; clear yy) | (rotate_left; (exact fun h => absurd h (by first | decide | (rw [h1]; decide))); intro yy; clear yy) | decide | omega) | (with_reducible refine frc_bytesL (by first | omega | decide) ?_) | (with_reducible refine frc_bytesM (by first | omega | decide) ?_))
      refine And.intro (show -9223372036854775808 ≤ (k1 : Int) + ((5 : Nat) : Int) ∧ (k1 : Int) + ((5 : Nat) : Int) ≤ 9223372036854775807 by omega) ?_
      (repeat first | (refine And.intro ?_ ?_; first | exact rfl | ((exact fun h => absurd h (by first | decide)); intro yy; clear yy) | (rotate_left; (exact fun h => absurd h (by first | decide)); intro yy; clear yy) | decide | omega) | (with_reducible refine frc_bytesL (by first | omega | decide) ?_) | (with_reducible refine frc_bytesM (by first | omega | decide) ?_))
      exact FinW.of ⟨.tup [.agg (jvS (.mk 1#8 0#64 [] [] []) jc0), .c (.int .i64 0)], _, ⟨[0, 1], ⟨rfl, rfl, rfl⟩, by (repeat first | exact trivial | refine ent1 ?_)⟩, .inl ⟨_, jc0, k1 + 5, W, ms, by rw [hPw, List.drop_drop], by omega, hk9, Later.refl _ _, TAt.leaf rfl rfl _, rfl, rfl⟩⟩
    have h1 : decide ((s.drop k1).take ([102#8, 97#8, 108#8, 115#8, 101#8] : Bs).length = [102#8, 97#8, 108#8, 115#8, 101#8]) = false := decide_eq_false w1
    rw [if_neg w1] at hPw
    (repeat first | (refine And.intro ?_ ?_; first | exact rfl | ((exact fun h => absurd h (by first | decide | (rw [h1]; decide))); intro yy; clear yy) | (rotate_left; (exact fun h => absurd h (by first | decide | (rw [h1]; decide))); intro yy; clear yy) | decide | omega) | (with_reducible refine frc_bytesL (by first | omega | decide) ?_) | (with_reducible refine frc_bytesM (by first | omega | decide) ?_))
    (repeat first | (refine And.intro ?_ ?_; first | exact rfl | ((exact fun h => absurd h (by first | decide)); intro yy; clear yy) | (rotate_left; (exact fun h => absurd h (by first | decide)); intro yy; clear yy) | decide | omega) | (with_reducible refine frc_bytesL (by first | omega | decide) ?_) | (with_reducible refine frc_bytesM (by first | omega | decide) ?_))
    refine ⟨none, [], [(0, true), (1, true), (2, true), (3, true), (4, true), (5, true), (6, true), (7, true), (8, true), (9, true), (10, false)], [], by kernel_rfl, ?_⟩
    (repeat first | (refine And.intro ?_ ?_; first | exact rfl | ((exact fun h => absurd h (by first | decide)); intro yy; clear yy) | (rotate_left; (exact fun h => absurd h (by first | decide)); intro yy; clear yy) | decide | omega) | (with_reducible refine frc_bytesL (by first | omega | decide) ?_) | (with_reducible refine frc_bytesM (by first | omega | decide) ?_))
    refine And.intro ⟨by omega, by rw [U8_len]; omega, by omega⟩ ?_
    refine frcN_of (m := k1) (Int.toNat_natCast k1) ?_
    refine frcN_of (m := (U8 s).length) (Int.toNat_natCast _) ?_
    (repeat first | (refine And.intro ?_ ?_; first | exact rfl | ((exact fun h => absurd h (by first | decide)); intro yy; clear yy) | (rotate_left; (exact fun h => absurd h (by first | decide)); intro yy; clear yy) | decide | omega) | (with_reducible refine frc_bytesL (by first | omega | decide) ?_) | (with_reducible refine frc_bytesM (by first | omega | decide) ?_))
    refine call_same (fn_prefix (s.drop k1) [116#8, 114#8, 117#8, 101#8] hwl (by decide)) [] rfl (by exact And.intro (U8_rest s k1) (And.intro rfl trivial)) trivial (fun _ _ => trivial) ?_
    rintro x hs' ⟨rfl, rfl⟩
    by_cases w2 : (s.drop k1).take 4 = [116#8, 114#8, 117#8, 101#8]
    · have h2 : decide ((s.drop k1).take ([116#8, 114#8, 117#8, 101#8] : Bs).length = [116#8, 114#8, 117#8, 101#8]) = true := decide_eq_true w2
      rw [if_pos w2] at hPw
      have hk9 : k1 + 4 ≤ s.length := by have := congrArg List.length w2; rw [List.length_take, List.length_drop] at this; simp only [List.length_cons, List.length_nil] at this; omega
      (repeat first | (refine And.intro ?_ ?_; first | exact rfl | ((exact fun h => absurd h (by first | decide | (rw [h2]; decide))); intro yy; clear yy) | (rotate_left; (exact fun h => absurd h (by first | decide | (rw [h2]; decide))); intro yy; clear yy) | decide | omega) | (with_reducible refine frc_bytesL (by first | omega | decide) ?_) | (with_reducible refine frc_bytesM (by first | omega | decide) ?_))
      refine And.intro (show -9223372036854775808 ≤ (k1 : Int) + ((4 : Nat) : Int) ∧ (k1 : Int) + ((4 : Nat) : Int) ≤ 9223372036854775807 by omega) ?_
      (repeat first | (refine And.intro ?_ ?_; first | exact rfl | ((exact fun h => absurd h (by first | decide)); intro yy; clear yy) | (rotate_left; (exact fun h => absurd h (by first | decide)); intro yy; clear yy) | decide | omega) | (with_reducible refine frc_bytesL (by first | omega | decide) ?_) | (with_reducible refine frc_bytesM (by first | omega | decide) ?_))
      exact FinW.of ⟨.tup [.agg (jvS (.mk 2#8 0#64 [] [] []) jc0), .c (.int .i64 0)], _, ⟨[0, 1], ⟨rfl, rfl, rfl⟩, by (repeat first | exact trivial | refine ent1 ?_)⟩, .inl ⟨_, jc0, k1 + 4, W, ms, by rw [hPw, List.drop_drop], by omega, hk9, Later.refl _ _, TAt.leaf rfl rfl _, rfl, rfl⟩⟩
    have h2 : decide ((s.drop k1).take ([116#8, 114#8, 117#8, 101#8] : Bs).length = [116#8, 114#8, 117#8, 101#8]) = false := decide_eq_false w2
    rw [if_neg w2] at hPw
    (repeat first | (refine And.intro ?_ ?_; first | exact rfl | ((exact fun h => absurd h (by first | decide | (rw [h2]; decide))); intro yy; clear yy) | (rotate_left; (exact fun h => absurd h (by first | decide | (rw [h2]; decide))); intro yy; clear yy) | decide | omega) | (with_reducible refine frc_bytesL (by first | omega | decide) ?_) | (with_reducible refine frc_bytesM (by first | omega | decide) ?_))
    exact FinW.of ⟨.tup [.agg (jvS jt0 jc0), .c (.int .i64 23)], _, ⟨[0, 1], ⟨rfl, rfl, rfl⟩, by (repeat first | exact trivial | refine ent1 ?_)⟩, .inr ⟨23, jt0, jc0, k1, W, ms, hPw, by decide, g1, g2, Later.refl _ _, rfl, rfl⟩⟩
theorem fn_value (s : Bs) (hs : s.length ≤ 1048576) : ∀ (d depth : Nat), depth + d = 8 → ValC s d depth
  | 0, depth, h => fn_value1 s hs 0 depth h (fun d' e => by cases e)
  | d + 1, depth, h => fn_value1 s hs (d + 1) depth h (fun d' e => by
    injection e with e
    subst e
    exact fn_value s hs d (depth + 1) (by omega))
/-- What Parse answers: a value, or where it isn't right, and why. -/
def ParseA (W : World) (ms : List Nat) (s : Bs) (y : SV) (hs : List (List Seg)) : Prop :=
  (∃ v x W' ms', parse s = .ok v [] ∧ Later W ms W' ms' ∧ TAt W' ms' 8 v x ∧ y = .tup [.agg (jvS v x), .c (.int .i64 0), .c (.int .i64 0)] ∧ hs = [[.past W' ms']]) ∨
  (∃ e k W' ms', parse s = .bad e ∧ e ≠ 0 ∧ k ≤ s.length ∧ Later W ms W' ms' ∧ y = .tup [.agg (jvS jt0 jc0), .c (.int .i64 ((k : Nat) : Int)), .c (.int .i64 e)] ∧ hs = [[.past W' ms']])
set_option maxRecDepth 20000 in
set_option maxHeartbeats 16000000 in
theorem fn_parse {W : World} {ms : List Nat} (hT : Tabs W ms) (s : Bs) (hs : s.length ≤ 4611686018427387904) : FnR Tryd.prog tds 17 1 [[.past W ms]] [.c (.str (U8 s))] (fun _ => True) (ParseA W ms s) := by
  refine fn_of_bodyW tds_ok follows_ Tryd.func17 rfl (t := .a (.c (.str (U8 s))) :: anys (Tryd.f17.ntmps - 1)) rfl (fun w r0 hr0 _ => ?_)
  obtain ⟨x0, rfl⟩ := len1' hr0
  by_cases h : 1048576 < s.length
  · have e : decide ((1048576 : Int) < (((U8 s).length : Nat) : Int)) = true := decide_eq_true (by rw [U8_len]; omega)
    (repeat first | (refine And.intro ?_ ?_; first | exact rfl | ((exact fun h => absurd h (by first | decide | (rw [e]; decide))); intro yy; clear yy) | (rotate_left; (exact fun h => absurd h (by first | decide | (rw [e]; decide))); intro yy; clear yy) | decide | omega) | (with_reducible refine frc_bytesL (by first | omega | decide) ?_) | (with_reducible refine frc_bytesM (by first | omega | decide) ?_))
    exact FinW.of ⟨.tup [.agg (jvS jt0 jc0), .c (.int .i64 ((0 : Nat) : Int)), .c (.int .i64 6)], _, ⟨[0], ⟨rfl, rfl, rfl⟩, by (repeat first | exact trivial | refine ent1 ?_)⟩, .inr ⟨6, 0, W, ms, by unfold parse; rw [if_pos h], by decide, Nat.zero_le _, Later.refl _ _, rfl, rfl⟩⟩
  have e : decide ((1048576 : Int) < (((U8 s).length : Nat) : Int)) = false := decide_eq_false (by rw [U8_len]; omega)
  have hP : parse s = match pval 8 s with
      | .bad e => .bad e
      | .ok v r => if blanks r = [] then .ok v [] else .bad 24 := by
    unfold parse
    rw [if_neg h]
    cases pval 8 s <;> rfl
  (repeat first | (refine And.intro ?_ ?_; first | exact rfl | ((exact fun h => absurd h (by first | decide | (rw [e]; decide))); intro yy; clear yy) | (rotate_left; (exact fun h => absurd h (by first | decide | (rw [e]; decide))); intro yy; clear yy) | decide | omega) | (with_reducible refine frc_bytesL (by first | omega | decide) ?_) | (with_reducible refine frc_bytesM (by first | omega | decide) ?_))
  refine call_past (fn_value s (by omega) 8 0 rfl W ms 0 hT (Nat.zero_le _)) 0 [2] rfl rfl (by (repeat first | exact trivial | refine ent1 ?_)) (by (repeat first | exact trivial | refine ent1 ?_)) (fun _ _ => trivial) (fun x hs hr => ?_) ?_
  · rcases hr with ⟨v, x, k', W5, ms5, _, _, _, hL5, _, _, rfl⟩ | ⟨e, v, x, k', W5, ms5, _, _, _, _, hL5, _, rfl⟩
    · exact ⟨W5, ms5, rfl, hL5⟩
    · exact ⟨W5, ms5, rfl, hL5⟩
  rintro y hs' (⟨v, x, k', W5, ms5, p1, p2, p3, hL5, hx5, rfl, rfl⟩ | ⟨e', v, x, k', W5, ms5, p1, p0, p2, p3, hL5, rfl, rfl⟩)
  · rw [List.drop_zero] at p1
    rw [p1] at hP
    dsimp only at hP
    (repeat first | (refine And.intro ?_ ?_; first | exact rfl | ((exact fun h => absurd h (by first | decide)); intro yy; clear yy) | (rotate_left; (exact fun h => absurd h (by first | decide)); intro yy; clear yy) | decide | omega) | (with_reducible refine frc_bytesL (by first | omega | decide) ?_) | (with_reducible refine frc_bytesM (by first | omega | decide) ?_))
    refine call_same (fn_blanks s k' p3 (by omega)) [2] rfl (by (repeat first | exact trivial | refine ent1 ?_)) (by (repeat first | exact trivial | refine ent1 ?_)) (fun _ _ => trivial) ?_
    rintro y hs' ⟨k2, r1, r2, r3, rfl, rfl⟩
    rw [← r3] at hP
    by_cases c : k2 < s.length
    · have f1 : decide ((k2 : Int) < (((U8 s).length : Nat) : Int)) = true := decide_eq_true (by rw [U8_len]; omega)
      rw [if_neg (by rw [drop_cons s k2 c]; exact List.cons_ne_nil _ _)] at hP
      (repeat first | (refine And.intro ?_ ?_; first | exact rfl | ((exact fun h => absurd h (by first | decide | (rw [f1]; decide))); intro yy; clear yy) | (rotate_left; (exact fun h => absurd h (by first | decide | (rw [f1]; decide))); intro yy; clear yy) | decide | omega) | (with_reducible refine frc_bytesL (by first | omega | decide) ?_) | (with_reducible refine frc_bytesM (by first | omega | decide) ?_))
      refine ⟨some [2], [], [(0, true), (1, true), (2, true), (3, true), (4, true), (5, true), (6, false), (7, true), (8, true)], [], by kernel_rfl, ?_⟩
      (repeat first | (refine And.intro ?_ ?_; first | exact rfl | ((exact fun h => absurd h (by first | decide)); intro yy; clear yy) | (rotate_left; (exact fun h => absurd h (by first | decide)); intro yy; clear yy) | decide | omega) | (with_reducible refine frc_bytesL (by first | omega | decide) ?_) | (with_reducible refine frc_bytesM (by first | omega | decide) ?_))
      exact FinW.of ⟨.tup [.agg (jvS jt0 jc0), .c (.int .i64 ((k2 : Nat) : Int)), .c (.int .i64 24)], _, ⟨[0], ⟨rfl, rfl, rfl⟩, by (repeat first | exact trivial | refine ent1 ?_)⟩, .inr ⟨24, k2, W5, ms5, hP, by decide, r2, hL5, rfl, rfl⟩⟩
    · have f1 : decide ((k2 : Int) < (((U8 s).length : Nat) : Int)) = false := decide_eq_false (by rw [U8_len]; omega)
      rw [if_pos (List.drop_eq_nil_of_le (by omega))] at hP
      (repeat first | (refine And.intro ?_ ?_; first | exact rfl | ((exact fun h => absurd h (by first | decide | (rw [f1]; decide))); intro yy; clear yy) | (rotate_left; (exact fun h => absurd h (by first | decide | (rw [f1]; decide))); intro yy; clear yy) | decide | omega) | (with_reducible refine frc_bytesL (by first | omega | decide) ?_) | (with_reducible refine frc_bytesM (by first | omega | decide) ?_))
      exact FinW.of ⟨.tup [.agg (jvS v x), .c (.int .i64 0), .c (.int .i64 0)], _, ⟨[0], ⟨rfl, rfl, rfl⟩, by (repeat first | exact trivial | refine ent1 ?_)⟩, .inl ⟨v, x, W5, ms5, hP, hL5, hx5, rfl, rfl⟩⟩
  · rw [List.drop_zero] at p1
    rw [p1] at hP
    have f1 : decide (e' = 0) = false := decide_eq_false p0
    have f2 : decide (e' ≠ 0) = true := decide_eq_true p0
    (repeat first | (refine And.intro ?_ ?_; first | exact rfl | ((exact fun h => absurd h (by first | decide | (rw [f1]; decide) | (rw [f2]; decide))); intro yy; clear yy) | (rotate_left; (exact fun h => absurd h (by first | decide | (rw [f1]; decide) | (rw [f2]; decide))); intro yy; clear yy) | decide | omega) | (with_reducible refine frc_bytesL (by first | omega | decide) ?_) | (with_reducible refine frc_bytesM (by first | omega | decide) ?_))
    refine ⟨some [2], [], [(0, true), (1, true), (2, true), (3, true), (4, true), (5, true), (6, false), (7, true), (8, true)], [], by kernel_rfl, ?_⟩
    (repeat first | (refine And.intro ?_ ?_; first | exact rfl | ((exact fun h => absurd h (by first | decide)); intro yy; clear yy) | (rotate_left; (exact fun h => absurd h (by first | decide)); intro yy; clear yy) | decide | omega) | (with_reducible refine frc_bytesL (by first | omega | decide) ?_) | (with_reducible refine frc_bytesM (by first | omega | decide) ?_))
    exact FinW.of ⟨.tup [.agg (jvS jt0 jc0), .c (.int .i64 ((k' : Nat) : Int)), .c (.int .i64 e')], _, ⟨[0], ⟨rfl, rfl, rfl⟩, by (repeat first | exact trivial | refine ent1 ?_)⟩, .inr ⟨e', k', W5, ms5, hP, p0, p3, hL5, rfl, rfl⟩⟩
end Sx
end Go.Proofs.YtnehmcpkeamghaaDoor
end

section
/-
  Writing a value that was read: put, Check, Print. No condition.
-/
namespace Go.Proofs.YtnehmcpkeamghaaDoor
set_option linter.unusedVariables false
namespace Js
open Sha
theorem qr_enc_le (r : Nat) (h : scal r) : (enc r).length ≤ (qr r).length := by
  unfold qr
  split
  · rename_i h; rcases h with h | h <;> subst h <;> decide
  split
  · rename_i h; subst h; decide
  split
  · rename_i h; subst h; decide
  split
  · rename_i h; subst h; decide
  split
  · unfold enc; rw [if_pos (by omega)]; show 1 ≤ 6; decide
  · exact Nat.le_refl _
theorem flat_le : ∀ (rs : List Nat), (∀ r ∈ rs, scal r) → (rs.flatMap enc).length ≤ (rs.flatMap qr).length
  | [], _ => Nat.le_refl _
  | r :: rs, h => by
    rw [List.flatMap_cons, List.flatMap_cons, List.length_append, List.length_append]
    have h1 := qr_enc_le r (h r (List.mem_cons_self ..))
    have h2 := flat_le rs (fun x hx => h x (List.mem_cons_of_mem _ hx))
    omega
theorem quote_len {s : Bs} (h : Utf s) : s.length ≤ (quote s).length := by
  obtain ⟨rs, hrs, rfl⟩ := h
  rw [quote_of hrs]
  have := flat_le rs hrs
  simp only [List.length_cons, List.length_append, List.length_nil]
  omega
theorem putL_mem (pv : JT → Bs) : ∀ (l : List JT), ∀ x ∈ l, (pv x).length ≤ (putL pv l).length
  | [], x, h => absurd h (by simp)
  | [y], x, h => by
    simp only [List.mem_singleton] at h
    subst h; exact Nat.le_refl _
  | y :: z :: l, x, h => by
    show _ ≤ (pv y ++ 44#8 :: putL pv (z :: l)).length
    rw [List.length_append, List.length_cons]
    rcases List.mem_cons.1 h with h | h
    · subst h; omega
    · have := putL_mem pv (z :: l) x h; omega
theorem putO_mem (pv : JT → Bs) : ∀ (ns : List Bs) (l : List JT), ns.length = l.length → (∀ x ∈ l, (pv x).length ≤ (putO pv ns l).length) ∧ ∀ s ∈ ns, (quote s).length ≤ (putO pv ns l).length
  | [], [], _ => ⟨fun x h => absurd h (by simp), fun x h => absurd h (by simp)⟩
  | [s], [y], _ => by
    refine ⟨fun x h => ?_, fun x h => ?_⟩
    · simp only [List.mem_singleton] at h
      subst h
      show _ ≤ (quote s ++ 58#8 :: pv _).length
      rw [List.length_append, List.length_cons]; omega
    · simp only [List.mem_singleton] at h
      subst h
      show _ ≤ (quote _ ++ 58#8 :: pv y).length
      rw [List.length_append, List.length_cons]; omega
  | s :: t :: ns, y :: z :: l, h => by
    obtain ⟨h1, h2⟩ := putO_mem pv (t :: ns) (z :: l) (by simpa using h)
    have e : putO pv (s :: t :: ns) (y :: z :: l) = quote s ++ 58#8 :: (pv y ++ 44#8 :: putO pv (t :: ns) (z :: l)) := rfl
    rw [e]
    simp only [List.length_append, List.length_cons] at h1 h2 ⊢
    refine ⟨fun x h => ?_, fun x h => ?_⟩
    · rcases List.mem_cons.1 h with h | h
      · subst h; omega
      · have := h1 x h; omega
    · rcases List.mem_cons.1 h with h | h
      · subst h; omega
      · have := h2 x h; omega
end Js
namespace Sx
open Go.RowKit Sha Vi Js

theorem fn_put : ∀ d, PutC d
  | 0 => fun W ms v x b c hT hx hn hc hl => fn_put1 0 (fun d' e => by cases e) b c hT hx hn hc hl
  | d + 1 => fun W ms v x b c hT hx hn hc hl => fn_put1 (d + 1) (fun d' e => by injection e with e; subst e; exact fn_put d) b c hT hx hn hc hl
theorem fn_putN (d : Nat) {W : World} {ms : List Nat} {v : JT} {x : JC} (hT : Tabs W ms) (hx : TAt W ms d v x) (hn : norm d v) (hl : (put d v).length ≤ 70368744177664) :
    FnR Tryd.prog tds 45 1 [[.past W ms]] [.agg (jvS v x), .c (.slc none 0 0)] (fun _ => True)
    (fun y hs => ∃ c', (put d v).length ≤ c' ∧ y = .a (.c (.sl 1 0 0 (put d v).length c')) ∧ hs = [[.past W ms], lsC (put d v) c']) := fn_put0 d (fun d' _ => fn_put d') hT hx hn hl
set_option maxRecDepth 20000 in
set_option maxHeartbeats 8000000 in
theorem fn_names {W : World} {ms : List Nat} (hT : Tabs W ms) {a : Option Addr} {m c : Nat} {ns : List Bs} (h : StAt W ms a m c (ns.map U8)) (hu : ∀ s ∈ ns, Utf s) (hnd : ns.Nodup) (hl : ∀ s ∈ ns, s.length ≤ 9223372036854775807) :
    FnR Tryd.prog tds 66 1 [[.past W ms]] [.c (.slc a m c)] (fun _ => True) (fun y hs => y = .a (.c (.int .i64 0)) ∧ hs = [[.past W ms]]) := by
  refine fn_of_body tds_ok follows_ Tryd.func66 rfl (t := .a (.c (.slc a m c)) :: anys (Tryd.f66.ntmps - 1)) rfl (fun w r0 hr0 _ => ?_)
  obtain ⟨x0, rfl⟩ := len1' hr0
  have hm : ns.length = m := by have h1 := h.len; simp only [List.length_map] at h1; omega
  have hcap := h.cap
  by_cases h0 : m = 0
  · have e0 : decide ((m : Int) = 0) = true := decide_eq_true (by omega)
    (repeat first | (refine And.intro ?_ ?_; first | exact rfl | ((exact fun h => absurd h (by first | decide | (rw [e0]; decide))); intro yy; clear yy) | (rotate_left; (exact fun h => absurd h (by first | decide | (rw [e0]; decide))); intro yy; clear yy) | decide | omega) | (with_reducible refine frc_bytesL (by first | omega | decide) ?_) | (with_reducible refine frc_bytesM (by first | omega | decide) ?_))
    exact ⟨.a (.c (.int .i64 0)), _, ⟨[0], ⟨rfl, rfl, rfl⟩, by (repeat first | exact trivial | refine ent1 ?_)⟩, rfl, rfl⟩
  have e0 : decide ((m : Int) = 0) = false := decide_eq_false (by omega)
  (repeat first | (refine And.intro ?_ ?_; first | exact rfl | ((exact fun h => absurd h (by first | decide | (rw [e0]; decide))); intro yy; clear yy) | (rotate_left; (exact fun h => absurd h (by first | decide | (rw [e0]; decide))); intro yy; clear yy) | decide | omega) | (with_reducible refine frc_bytesL (by first | omega | decide) ?_) | (with_reducible refine frc_bytesM (by first | omega | decide) ?_))
  refine And.intro trivial ?_
  (repeat first | (refine And.intro ?_ ?_; first | exact rfl | ((exact fun h => absurd h (by first | decide)); intro yy; clear yy) | (rotate_left; (exact fun h => absurd h (by first | decide)); intro yy; clear yy) | decide | omega) | (with_reducible refine frc_bytesL (by first | omega | decide) ?_) | (with_reducible refine frc_bytesM (by first | omega | decide) ?_))
  refine .inl ⟨Nat, fun j => ⟨[.a (.c (.slc a m c)), .any, .a (.c (.int .i64 (0))), .a (.c (.mh 1)), .any, .any, .any, .any, .any, .any, .any, .any, .any, .any, .a (.c (.slc a m c)), .a (.c (.int .i64 (m))), .a (.c (.int .i64 (((j : Nat) : Int)))), .any, .any, .any, .any, .any, .any, .any, .any, .any, .any, .any, .any, .any, .any, .any, .any, .any], [[.past W ms], hadC (ns.take j)]⟩,
    fun j => j ≤ ns.length, fun j => ns.length - j, ⟨0, [0, 1], ⟨⟨rfl, rfl, rfl⟩, by (repeat first | exact trivial | refine ent1 ?_)⟩, Nat.zero_le _⟩, fun j hj0 => ?_⟩
  by_cases hj : j < ns.length
  rotate_left
  · have e1 : decide ((j : Int) < (m : Int)) = false := decide_eq_false (by omega)
    (repeat first | (refine And.intro ?_ ?_; first | exact rfl | ((exact fun h => absurd h (by first | decide | (rw [e1]; decide))); intro yy; clear yy) | (rotate_left; (exact fun h => absurd h (by first | decide | (rw [e1]; decide))); intro yy; clear yy) | decide | omega) | (with_reducible refine frc_bytesL (by first | omega | decide) ?_) | (with_reducible refine frc_bytesM (by first | omega | decide) ?_))
    exact ⟨.a (.c (.int .i64 0)), _, ⟨[0], ⟨rfl, rfl, rfl⟩, by (repeat first | exact trivial | refine ent1 ?_)⟩, rfl, rfl⟩
  have e1 : decide ((j : Int) < (m : Int)) = true := decide_eq_true (by omega)
  obtain ⟨A, rfl⟩ : ∃ A, a = some A := by
    cases a with
    | none => exact absurd (h.nil rfl) (by have := h.le; omega)
    | some A => exact ⟨A, rfl⟩
  have him := (h.im A rfl (by have := h.le; omega)).one (show ((ns.map U8).map SC.str)[j]? = some (.str (U8 ns[j])) by simp [hj])
  (repeat first | (refine And.intro ?_ ?_; first | exact rfl | ((exact fun h => absurd h (by first | decide | (rw [e1]; decide))); intro yy; clear yy) | (rotate_left; (exact fun h => absurd h (by first | decide | (rw [e1]; decide))); intro yy; clear yy) | decide | omega) | (with_reducible refine frc_bytesL (by first | omega | decide) ?_) | (with_reducible refine frc_bytesM (by first | omega | decide) ?_))
  refine ⟨[.one (.str (U8 ns[j]))], ⟨.past (i := 0) rfl (by show ImAt W ms (A.add (j * 1)) _; rw [Nat.mul_one]; exact him), rfl⟩, ?_⟩
  (repeat first | (refine And.intro ?_ ?_; first | exact rfl | ((exact fun h => absurd h (by first | decide)); intro yy; clear yy) | (rotate_left; (exact fun h => absurd h (by first | decide)); intro yy; clear yy) | decide | omega) | (with_reducible refine frc_bytesL (by first | omega | decide) ?_) | (with_reducible refine frc_bytesM (by first | omega | decide) ?_))
  refine call_same (fn_valid hT (hu _ (List.getElem_mem hj)) (hl _ (List.getElem_mem hj))) [0] rfl (by exact And.intro rfl trivial) (by (repeat first | exact trivial | refine ent1 ?_)) (fun _ _ => trivial) ?_
  rintro y hs ⟨rfl, rfl⟩
  have hni : ns[j] ∉ ns.take j := by
    intro hc
    obtain ⟨i, hi, he⟩ := List.mem_iff_getElem.1 hc
    rw [List.length_take] at hi
    rw [List.getElem_take] at he
    exact List.pairwise_iff_getElem.1 hnd i j (by omega) hj (by omega) he
  have hh := hasS_U8 ns[j] (ns.take j)
  rw [decide_eq_false hni] at hh
  have hput : putL' (U8 ns[j]) ((ns.take j).map U8) = (ns.take (j + 1)).map U8 := by
    unfold putL'; rw [hh, List.take_add_one, List.getElem?_eq_getElem hj, Option.toList_some, List.map_append]; rfl
  (repeat first | (refine And.intro ?_ ?_; first | exact rfl | ((exact fun h => absurd h (by first | decide | (rw [hh]; decide))); intro yy; clear yy) | (rotate_left; (exact fun h => absurd h (by first | decide | (rw [hh]; decide))); intro yy; clear yy) | decide | omega) | (with_reducible refine frc_bytesL (by first | omega | decide) ?_) | (with_reducible refine frc_bytesM (by first | omega | decide) ?_))
  rw [hput]
  refine ⟨j + 1, [0, 1], ⟨⟨rfl, rfl, rfl⟩, ?_⟩, hj, by dsimp only; omega⟩
  (repeat first | exact trivial | refine ent1 ?_)
/-- What is told of a value that is looked at, so many levels down. -/
def ChkC (d depth : Nat) : Prop := ∀ (W : World) (ms : List Nat) (v : JT) (x : JC), Tabs W ms → TAt W ms d v x → norm d v → (put d v).length ≤ 70368744177664 →
  FnR Tryd.prog tds 46 1 [[.past W ms], [.one (.slc none 0 0)]] [.c (.p 1 0 0), .agg (jvS v x), .c (.int .i64 (depth : Int))] (fun _ => True) (fun y hs => y = .a (.c (.int .i64 0)) ∧ hs = [[.past W ms], [.one (.slc none 0 0)]])
theorem fn_nests (k : BitVec 8) : Fn Tryd.prog tds 64 [] [.c (.w8 k)] (fun _ => True) (fun y hs => y = .a (.c (.bool (decide (k = 5#8 ∨ k = 6#8)))) ∧ hs = []) := by
  refine fn_of_body tds_ok follows_ Tryd.func64 rfl (t := .a (.c (.w8 k)) :: anys (Tryd.f64.ntmps - 1)) rfl (fun w r0 hr0 _ => ?_)
  obtain rfl : r0 = [] := List.eq_nil_of_length_eq_zero hr0
  by_cases h5 : k = 5#8
  · have e5 : decide (k = 5#8) = true := decide_eq_true h5
    rw [decide_eq_true (Or.inl h5)]
    (repeat first | (refine And.intro ?_ ?_; first | exact rfl | ((exact fun h => absurd h (by first | decide | (rw [e5]; decide))); intro yy; clear yy) | (rotate_left; (exact fun h => absurd h (by first | decide | (rw [e5]; decide))); intro yy; clear yy) | decide | omega) | (with_reducible refine frc_bytesL (by first | omega | decide) ?_) | (with_reducible refine frc_bytesM (by first | omega | decide) ?_))
    exact ⟨.a (.c (.bool true)), _, ⟨[], ⟨rfl, rfl, rfl⟩, by (repeat first | exact trivial | refine ent1 ?_)⟩, rfl, rfl⟩
  have e5 : decide (k = 5#8) = false := decide_eq_false h5
  have e6 : decide (k = 5#8 ∨ k = 6#8) = decide (k = 6#8) := decide_eq_decide.2 ⟨fun h => h.resolve_left h5, .inr⟩
  rw [e6]
  (repeat first | (refine And.intro ?_ ?_; first | exact rfl | ((exact fun h => absurd h (by first | decide | (rw [e5]; decide))); intro yy; clear yy) | (rotate_left; (exact fun h => absurd h (by first | decide | (rw [e5]; decide))); intro yy; clear yy) | decide | omega) | (with_reducible refine frc_bytesL (by first | omega | decide) ?_) | (with_reducible refine frc_bytesM (by first | omega | decide) ?_))
  exact ⟨.a (.c (.bool (decide (k = 6#8)))), _, ⟨[], ⟨rfl, rfl, rfl⟩, by (repeat first | exact trivial | refine ent1 ?_)⟩, rfl, rfl⟩
set_option maxRecDepth 20000 in
set_option maxHeartbeats 16000000 in
theorem fn_chk1 (d depth : Nat) (hdd : depth + d ≤ 8) (hrec : ∀ d', d = d' + 1 → ChkC d' (depth + 1)) : ChkC d depth := by
  intro W ms v x hT hx hn hl
  refine fn_of_body tds_ok follows_ Tryd.func46 rfl (t := .a (.c (.p 1 0 0)) :: .a (.agg (jvS v x)) :: .a (.c (.int .i64 (depth : Int))) :: anys (Tryd.f46.ntmps - 3)) rfl (fun w r0 hr0 _ => ?_)
  obtain ⟨x0, x1, rfl⟩ := len2' hr0
  have hk6 : v.k.toNat ≤ 6 := by
    cases d with
    | zero => have := hn.2.2.2.2.1; omega
    | succ d =>
      rcases hn with hlf | ⟨_, _, _, h5 | h6⟩
      · have := hlf.2.2.2.2.1; omega
      · rw [h5.1]; decide
      · rw [h6.1]; decide
  have hU : Utf v.s := by
    cases d with
    | zero => exact hn.2.2.2.2.2
    | succ d =>
      rcases hn with hlf | ⟨_, h2, _⟩
      · exact hlf.2.2.2.2.2
      · rw [h2]; exact ⟨[], by simp, rfl⟩
  have f0 : decide (6#8 < v.k) = false := decide_eq_false (by rw [BitVec.lt_def]; show ¬ 6 < v.k.toNat; omega)
  have hsl : v.s.length ≤ 9223372036854775807 := by
    have h1 : v.k = 4#8 ∨ v.s = [] := by
      cases d with
      | zero => exact hn.2.2.2.1
      | succ d =>
        rcases hn with hlf | ⟨_, h2, _⟩
        · exact hlf.2.2.2.1
        · exact .inr h2
    rcases h1 with h1 | h1
    · have h2 : put d v = quote v.s := by cases d <;> (unfold put put1; rw [if_neg (by rw [h1]; decide), if_neg (by rw [h1]; decide), if_neg (by rw [h1]; decide), if_neg (by rw [h1]; decide), if_pos h1])
      have h3 := quote_len hU
      rw [h2] at hl; omega
    · rw [h1]; exact Nat.zero_le _
  have hxl := hx.len
  have hxn := hx.ns
  by_cases kn : v.k = 5#8 ∨ v.k = 6#8
  rotate_left
  · have en : decide (v.k = 5#8 ∨ v.k = 6#8) = false := decide_eq_false kn
    have e6 : decide (v.k = 6#8) = false := decide_eq_false fun h => kn (.inr h)
    have hlf : leaf v := by
      cases d with
      | zero => exact hn
      | succ d =>
        rcases hn with hlf | ⟨_, _, _, h5 | h6⟩
        · exact hlf
        · exact absurd (.inl h5.1) kn
        · exact absurd (.inr h6.1) kn
    have em : decide ((x.m : Int) = 0) = true := decide_eq_true (by rw [hlf.1] at hxl; simp at hxl; omega)
    (repeat first | (refine And.intro ?_ ?_; first | exact rfl | ((exact fun h => absurd h (by first | decide | (rw [f0]; decide))); intro yy; clear yy) | (rotate_left; (exact fun h => absurd h (by first | decide | (rw [f0]; decide))); intro yy; clear yy) | decide | omega) | (with_reducible refine frc_bytesL (by first | omega | decide) ?_) | (with_reducible refine frc_bytesM (by first | omega | decide) ?_))
    refine call_same (fn_nests v.k) [] rfl (by exact And.intro rfl trivial) trivial (fun _ _ => trivial) ?_
    rintro y hs ⟨rfl, rfl⟩
    (repeat first | (refine And.intro ?_ ?_; first | exact rfl | ((exact fun h => absurd h (by first | decide | (rw [en]; decide))); intro yy; clear yy) | (rotate_left; (exact fun h => absurd h (by first | decide | (rw [en]; decide))); intro yy; clear yy) | decide | omega) | (with_reducible refine frc_bytesL (by first | omega | decide) ?_) | (with_reducible refine frc_bytesM (by first | omega | decide) ?_))
    refine call_same (fn_valid hT hU hsl) [0] rfl (by exact And.intro rfl trivial) (by (repeat first | exact trivial | refine ent1 ?_)) (fun _ _ => trivial) ?_
    rintro y hs ⟨rfl, rfl⟩
    (repeat first | (refine And.intro ?_ ?_; first | exact rfl | ((exact fun h => absurd h (by first | decide | (rw [e6]; decide))); intro yy; clear yy) | (rotate_left; (exact fun h => absurd h (by first | decide | (rw [e6]; decide))); intro yy; clear yy) | decide | omega) | (with_reducible refine frc_bytesL (by first | omega | decide) ?_) | (with_reducible refine frc_bytesM (by first | omega | decide) ?_))
    refine call_same (fn_names hT hxn (by rw [hlf.2.1]; simp) (by rw [hlf.2.1]; simp) (by rw [hlf.2.1]; simp)) [0] rfl (by exact And.intro rfl trivial) (by (repeat first | exact trivial | refine ent1 ?_)) (fun _ _ => trivial) ?_
    rintro y hs ⟨rfl, rfl⟩
    (repeat first | (refine And.intro ?_ ?_; first | exact rfl | ((exact fun h => absurd h (by first | decide | (rw [em]; decide))); intro yy; clear yy) | (rotate_left; (exact fun h => absurd h (by first | decide | (rw [em]; decide))); intro yy; clear yy) | decide | omega) | (with_reducible refine frc_bytesL (by first | omega | decide) ?_) | (with_reducible refine frc_bytesM (by first | omega | decide) ?_))
    exact ⟨.a (.c (.int .i64 0)), _, ⟨[0, 1], ⟨rfl, rfl, rfl⟩, by (repeat first | exact trivial | refine ent1 ?_)⟩, rfl, rfl⟩
  have en : decide (v.k = 5#8 ∨ v.k = 6#8) = true := decide_eq_true kn
  obtain ⟨d', rfl, hv3, hk⟩ : ∃ d', d = d' + 1 ∧ (∀ x ∈ v.l, norm d' x) ∧ ((v.k = 5#8 ∧ v.ns = []) ∨ (v.k = 6#8 ∧ v.ns.length = v.l.length ∧ v.ns.Nodup ∧ ∀ s ∈ v.ns, Utf s)) := by
    have hno : ¬ leaf v := fun hlf => by
      have := hlf.2.2.2.2.1
      rcases kn with h | h <;> rw [h] at this <;> exact absurd this (by decide)
    cases d with
    | zero => exact absurd hn hno
    | succ d => exact ⟨d, rfl, (hn.resolve_left hno).2.2⟩
  have hput : (∀ x ∈ v.l, (put d' x).length ≤ 70368744177664) ∧ ∀ s ∈ v.ns, s.length ≤ 9223372036854775807 := by
    rcases hk with ⟨h5, h6⟩ | ⟨h6, hnl, _, hu⟩
    · have h2 : put (d' + 1) v = 91#8 :: (putL (put d') v.l ++ [93#8])   := by show put1 _ _ v = _; unfold put1; rw [if_neg (by rw [h5]; decide), if_neg (by rw [h5]; decide), if_neg (by rw [h5]; decide), if_neg (by rw [h5]; decide), if_neg (by rw [h5]; decide), if_pos h5]
      rw [h2] at hl
      simp only [List.length_cons, List.length_append, List.length_nil] at hl
      exact ⟨fun x hx => by have := Js.putL_mem (put d') v.l x hx; omega, by rw [h6]; simp⟩
    · have h2 : put (d' + 1) v = 123#8 :: (putO (put d') v.ns v.l ++ [125#8])   := by show put1 _ _ v = _; unfold put1; rw [if_neg (by rw [h6]; decide), if_neg (by rw [h6]; decide), if_neg (by rw [h6]; decide), if_neg (by rw [h6]; decide), if_neg (by rw [h6]; decide), if_neg (by rw [h6]; decide)]
      rw [h2] at hl
      simp only [List.length_cons, List.length_append, List.length_nil] at hl
      obtain ⟨q1, q2⟩ := putO_mem (put d') v.ns v.l hnl
      exact ⟨fun x hx => by have := q1 x hx; omega, fun s hs => by have := q2 s hs; have := quote_len (hu s hs); omega⟩
  obtain ⟨hput, hnlen⟩ := hput
  have hnu : ∀ s ∈ v.ns, Utf s := by
    rcases hk with ⟨_, h6⟩ | ⟨_, _, _, hu⟩
    · rw [h6]; simp
    · exact hu
  have hnd : v.ns.Nodup := by
    rcases hk with ⟨_, h6⟩ | ⟨_, _, hd, _⟩
    · rw [h6]; simp
    · exact hd
  have e8 : decide ((8 : Int) ≤ (depth : Int)) = false := decide_eq_false (by omega)
  obtain ⟨⟨g1, g2, g3, g4, g5⟩, hns⟩ := hx
  obtain ⟨xa, xm, xc, xb, xp, xq⟩ := x
  dsimp only at g1 g2 g3 g4 g5 hns
  have e6 : (decide (v.k = 6#8) = true ∧ decide ((xp : Int) ≠ (xm : Int)) = false) ∨ decide (v.k = 6#8) = false := by
    rcases hk with ⟨h5, _⟩ | ⟨h6, hnl, _⟩
    · exact .inr (decide_eq_false (by rw [h5]; decide))
    · refine .inl ⟨decide_eq_true h6, decide_eq_false (not_not_intro ?_)⟩
      have h1 := hns.len
      simp only [List.length_map] at h1
      omega
  (repeat first | (refine And.intro ?_ ?_; first | exact rfl | ((exact fun h => absurd h (by first | decide | (rw [f0]; decide))); intro yy; clear yy) | (rotate_left; (exact fun h => absurd h (by first | decide | (rw [f0]; decide))); intro yy; clear yy) | decide | omega) | (with_reducible refine frc_bytesL (by first | omega | decide) ?_) | (with_reducible refine frc_bytesM (by first | omega | decide) ?_))
  refine call_same (fn_nests v.k) [] rfl (by exact And.intro rfl trivial) trivial (fun _ _ => trivial) ?_
  rintro y hs ⟨rfl, rfl⟩
  (repeat first | (refine And.intro ?_ ?_; first | exact rfl | ((exact fun h => absurd h (by first | decide | (rw [en]; decide) | (rw [e8]; decide))); intro yy; clear yy) | (rotate_left; (exact fun h => absurd h (by first | decide | (rw [en]; decide) | (rw [e8]; decide))); intro yy; clear yy) | decide | omega) | (with_reducible refine frc_bytesL (by first | omega | decide) ?_) | (with_reducible refine frc_bytesM (by first | omega | decide) ?_))
  refine call_same (fn_valid hT hU hsl) [0] rfl (by exact And.intro rfl trivial) (by (repeat first | exact trivial | refine ent1 ?_)) (fun _ _ => trivial) ?_
  rintro y hs ⟨rfl, rfl⟩
  rcases e6 with ⟨e6, e7⟩ | e6
  · (repeat first | (refine And.intro ?_ ?_; first | exact rfl | ((exact fun h => absurd h (by first | decide | (rw [e6]; decide) | (rw [e7]; decide))); intro yy; clear yy) | (rotate_left; (exact fun h => absurd h (by first | decide | (rw [e6]; decide) | (rw [e7]; decide))); intro yy; clear yy) | decide | omega) | (with_reducible refine frc_bytesL (by first | omega | decide) ?_) | (with_reducible refine frc_bytesM (by first | omega | decide) ?_))
    refine call_same (fn_names hT hns hnu hnd hnlen) [0] rfl (by exact And.intro rfl trivial) (by (repeat first | exact trivial | refine ent1 ?_)) (fun _ _ => trivial) ?_
    rintro y hs ⟨rfl, rfl⟩
    by_cases hm0 : xm = 0
    · have em : decide ((xm : Int) = 0) = true := decide_eq_true (by omega)
      (repeat first | (refine And.intro ?_ ?_; first | exact rfl | ((exact fun h => absurd h (by first | decide | (rw [em]; decide))); intro yy; clear yy) | (rotate_left; (exact fun h => absurd h (by first | decide | (rw [em]; decide))); intro yy; clear yy) | decide | omega) | (with_reducible refine frc_bytesL (by first | omega | decide) ?_) | (with_reducible refine frc_bytesM (by first | omega | decide) ?_))
      exact ⟨.a (.c (.int .i64 0)), _, ⟨[0, 1], ⟨rfl, rfl, rfl⟩, by (repeat first | exact trivial | refine ent1 ?_)⟩, rfl, rfl⟩
    have em : decide ((xm : Int) = 0) = false := decide_eq_false (by omega)
    (repeat first | (refine And.intro ?_ ?_; first | exact rfl | ((exact fun h => absurd h (by first | decide | (rw [em]; decide))); intro yy; clear yy) | (rotate_left; (exact fun h => absurd h (by first | decide | (rw [em]; decide))); intro yy; clear yy) | decide | omega) | (with_reducible refine frc_bytesL (by first | omega | decide) ?_) | (with_reducible refine frc_bytesM (by first | omega | decide) ?_))
    refine call_same (fn_nests v.k) [] rfl (by exact And.intro rfl trivial) trivial (fun _ _ => trivial) ?_
    rintro y hs ⟨rfl, rfl⟩
    (repeat first | (refine And.intro ?_ ?_; first | exact rfl | ((exact fun h => absurd h (by first | decide | (rw [en]; decide))); intro yy; clear yy) | (rotate_left; (exact fun h => absurd h (by first | decide | (rw [en]; decide))); intro yy; clear yy) | decide | omega) | (with_reducible refine frc_bytesL (by first | omega | decide) ?_) | (with_reducible refine frc_bytesM (by first | omega | decide) ?_))
    refine .inl ⟨Nat, fun j => ⟨[.a (.c (.p 1 0 0)), .any, .a (.c (.int .i64 ((((depth + 1 : Nat)) : Int)))), .any, .any, .any, .a (.c (.int .i64 (0))), .any, .any, .any, .any, .any, .any, .any, .any, .any, .any, .any, .any, .any, .any, .any, .any, .any, .any, .any, .any, .any, .any, .any, .any, .any, .any, .any, .any, .any, .any, .any, .any, .any, .any, .any, .any, .any, .any, .any, .any, .any, .any, .any, .any, .any, .any, .any, .any, .any, .any, .any, .any, .any, .any, .any, .any, .any, .any, .any, .any, .any, .any, .any, .any, .any, .any, .any, .any, .any, .any, .any, .any, .any, .any, .any, .a (.c (.slc xa xm xc)), .a (.c (.int .i64 (xm))), .a (.c (.int .i64 (((j : Nat) : Int)))), .any, .any, .any, .any, .any, .any, .any, .any, .any, .any, .any], [[.past W ms], [.one (.slc none 0 0)]]⟩,
      fun j => j ≤ v.l.length, fun j => v.l.length - j, ⟨0, [0, 1], ⟨⟨rfl, rfl, rfl⟩, ?_⟩, Nat.zero_le _⟩, fun j hj0 => ?_⟩
    · (repeat first | exact trivial | refine ent1 ?_)
    by_cases hj : j < v.l.length
    rotate_left
    · have e1 : decide ((j : Int) < (xm : Int)) = false := decide_eq_false (by omega)
      (repeat first | (refine And.intro ?_ ?_; first | exact rfl | ((exact fun h => absurd h (by first | decide | (rw [e1]; decide))); intro yy; clear yy) | (rotate_left; (exact fun h => absurd h (by first | decide | (rw [e1]; decide))); intro yy; clear yy) | decide | omega) | (with_reducible refine frc_bytesL (by first | omega | decide) ?_) | (with_reducible refine frc_bytesM (by first | omega | decide) ?_))
      exact ⟨.a (.c (.int .i64 0)), _, ⟨[0, 1], ⟨rfl, rfl, rfl⟩, by (repeat first | exact trivial | refine ent1 ?_)⟩, rfl, rfl⟩
    have e1 : decide ((j : Int) < (xm : Int)) = true := decide_eq_true (by omega)
    obtain ⟨A, rfl⟩ : ∃ A, xa = some A := by
      cases xa with
      | none => exact absurd (g4 rfl) (by omega)
      | some A => exact ⟨A, rfl⟩
    obtain ⟨y, y1, y2⟩ := (g5 A rfl (by omega)).2 j v.l[j] (List.getElem?_eq_getElem hj)
    (repeat first | (refine And.intro ?_ ?_; first | exact rfl | ((exact fun h => absurd h (by first | decide | (rw [e1]; decide))); intro yy; clear yy) | (rotate_left; (exact fun h => absurd h (by first | decide | (rw [e1]; decide))); intro yy; clear yy) | decide | omega) | (with_reducible refine frc_bytesL (by first | omega | decide) ?_) | (with_reducible refine frc_bytesM (by first | omega | decide) ?_))
    refine ⟨jvS v.l[j] y, ⟨.past (i := 0) rfl (by exact y1), rfl⟩, ?_⟩
    (repeat first | (refine And.intro ?_ ?_; first | exact rfl | ((exact fun h => absurd h (by first | decide)); intro yy; clear yy) | (rotate_left; (exact fun h => absurd h (by first | decide)); intro yy; clear yy) | decide | omega) | (with_reducible refine frc_bytesL (by first | omega | decide) ?_) | (with_reducible refine frc_bytesM (by first | omega | decide) ?_))
    refine call_same (hrec d' rfl W ms v.l[j] y hT y2 (hv3 _ (List.getElem_mem hj)) (hput _ (List.getElem_mem hj))) [0, 1] rfl (by (repeat first | exact trivial | refine ent1 ?_)) (by (repeat first | exact trivial | refine ent1 ?_)) (fun _ _ => trivial) ?_
    rintro y' hs ⟨rfl, rfl⟩
    (repeat first | (refine And.intro ?_ ?_; first | exact rfl | ((exact fun h => absurd h (by first | decide)); intro yy; clear yy) | (rotate_left; (exact fun h => absurd h (by first | decide)); intro yy; clear yy) | decide | omega) | (with_reducible refine frc_bytesL (by first | omega | decide) ?_) | (with_reducible refine frc_bytesM (by first | omega | decide) ?_))
    refine ⟨j + 1, [0, 1], ⟨⟨rfl, rfl, rfl⟩, ?_⟩, hj, by dsimp only; omega⟩
    (repeat first | exact trivial | refine ent1 ?_)
  · (repeat first | (refine And.intro ?_ ?_; first | exact rfl | ((exact fun h => absurd h (by first | decide | (rw [e6]; decide))); intro yy; clear yy) | (rotate_left; (exact fun h => absurd h (by first | decide | (rw [e6]; decide))); intro yy; clear yy) | decide | omega) | (with_reducible refine frc_bytesL (by first | omega | decide) ?_) | (with_reducible refine frc_bytesM (by first | omega | decide) ?_))
    refine call_same (fn_names hT hns hnu hnd hnlen) [0] rfl (by exact And.intro rfl trivial) (by (repeat first | exact trivial | refine ent1 ?_)) (fun _ _ => trivial) ?_
    rintro y hs ⟨rfl, rfl⟩
    by_cases hm0 : xm = 0
    · have em : decide ((xm : Int) = 0) = true := decide_eq_true (by omega)
      (repeat first | (refine And.intro ?_ ?_; first | exact rfl | ((exact fun h => absurd h (by first | decide | (rw [em]; decide))); intro yy; clear yy) | (rotate_left; (exact fun h => absurd h (by first | decide | (rw [em]; decide))); intro yy; clear yy) | decide | omega) | (with_reducible refine frc_bytesL (by first | omega | decide) ?_) | (with_reducible refine frc_bytesM (by first | omega | decide) ?_))
      exact ⟨.a (.c (.int .i64 0)), _, ⟨[0, 1], ⟨rfl, rfl, rfl⟩, by (repeat first | exact trivial | refine ent1 ?_)⟩, rfl, rfl⟩
    have em : decide ((xm : Int) = 0) = false := decide_eq_false (by omega)
    (repeat first | (refine And.intro ?_ ?_; first | exact rfl | ((exact fun h => absurd h (by first | decide | (rw [em]; decide))); intro yy; clear yy) | (rotate_left; (exact fun h => absurd h (by first | decide | (rw [em]; decide))); intro yy; clear yy) | decide | omega) | (with_reducible refine frc_bytesL (by first | omega | decide) ?_) | (with_reducible refine frc_bytesM (by first | omega | decide) ?_))
    refine call_same (fn_nests v.k) [] rfl (by exact And.intro rfl trivial) trivial (fun _ _ => trivial) ?_
    rintro y hs ⟨rfl, rfl⟩
    (repeat first | (refine And.intro ?_ ?_; first | exact rfl | ((exact fun h => absurd h (by first | decide | (rw [en]; decide))); intro yy; clear yy) | (rotate_left; (exact fun h => absurd h (by first | decide | (rw [en]; decide))); intro yy; clear yy) | decide | omega) | (with_reducible refine frc_bytesL (by first | omega | decide) ?_) | (with_reducible refine frc_bytesM (by first | omega | decide) ?_))
    refine .inl ⟨Nat, fun j => ⟨[.a (.c (.p 1 0 0)), .any, .a (.c (.int .i64 ((((depth + 1 : Nat)) : Int)))), .any, .any, .any, .a (.c (.int .i64 (0))), .any, .any, .any, .any, .any, .any, .any, .any, .any, .any, .any, .any, .any, .any, .any, .any, .any, .any, .any, .any, .any, .any, .any, .any, .any, .any, .any, .any, .any, .any, .any, .any, .any, .any, .any, .any, .any, .any, .any, .any, .any, .any, .any, .any, .any, .any, .any, .any, .any, .any, .any, .any, .any, .any, .any, .any, .any, .any, .any, .any, .any, .any, .any, .any, .any, .any, .any, .any, .any, .any, .any, .any, .any, .any, .any, .a (.c (.slc xa xm xc)), .a (.c (.int .i64 (xm))), .a (.c (.int .i64 (((j : Nat) : Int)))), .any, .any, .any, .any, .any, .any, .any, .any, .any, .any, .any], [[.past W ms], [.one (.slc none 0 0)]]⟩,
      fun j => j ≤ v.l.length, fun j => v.l.length - j, ⟨0, [0, 1], ⟨⟨rfl, rfl, rfl⟩, ?_⟩, Nat.zero_le _⟩, fun j hj0 => ?_⟩
    · (repeat first | exact trivial | refine ent1 ?_)
    by_cases hj : j < v.l.length
    rotate_left
    · have e1 : decide ((j : Int) < (xm : Int)) = false := decide_eq_false (by omega)
      (repeat first | (refine And.intro ?_ ?_; first | exact rfl | ((exact fun h => absurd h (by first | decide | (rw [e1]; decide))); intro yy; clear yy) | (rotate_left; (exact fun h => absurd h (by first | decide | (rw [e1]; decide))); intro yy; clear yy) | decide | omega) | (with_reducible refine frc_bytesL (by first | omega | decide) ?_) | (with_reducible refine frc_bytesM (by first | omega | decide) ?_))
      exact ⟨.a (.c (.int .i64 0)), _, ⟨[0, 1], ⟨rfl, rfl, rfl⟩, by (repeat first | exact trivial | refine ent1 ?_)⟩, rfl, rfl⟩
    have e1 : decide ((j : Int) < (xm : Int)) = true := decide_eq_true (by omega)
    obtain ⟨A, rfl⟩ : ∃ A, xa = some A := by
      cases xa with
      | none => exact absurd (g4 rfl) (by omega)
      | some A => exact ⟨A, rfl⟩
    obtain ⟨y, y1, y2⟩ := (g5 A rfl (by omega)).2 j v.l[j] (List.getElem?_eq_getElem hj)
    (repeat first | (refine And.intro ?_ ?_; first | exact rfl | ((exact fun h => absurd h (by first | decide | (rw [e1]; decide))); intro yy; clear yy) | (rotate_left; (exact fun h => absurd h (by first | decide | (rw [e1]; decide))); intro yy; clear yy) | decide | omega) | (with_reducible refine frc_bytesL (by first | omega | decide) ?_) | (with_reducible refine frc_bytesM (by first | omega | decide) ?_))
    refine ⟨jvS v.l[j] y, ⟨.past (i := 0) rfl (by exact y1), rfl⟩, ?_⟩
    (repeat first | (refine And.intro ?_ ?_; first | exact rfl | ((exact fun h => absurd h (by first | decide)); intro yy; clear yy) | (rotate_left; (exact fun h => absurd h (by first | decide)); intro yy; clear yy) | decide | omega) | (with_reducible refine frc_bytesL (by first | omega | decide) ?_) | (with_reducible refine frc_bytesM (by first | omega | decide) ?_))
    refine call_same (hrec d' rfl W ms v.l[j] y hT y2 (hv3 _ (List.getElem_mem hj)) (hput _ (List.getElem_mem hj))) [0, 1] rfl (by (repeat first | exact trivial | refine ent1 ?_)) (by (repeat first | exact trivial | refine ent1 ?_)) (fun _ _ => trivial) ?_
    rintro y' hs ⟨rfl, rfl⟩
    (repeat first | (refine And.intro ?_ ?_; first | exact rfl | ((exact fun h => absurd h (by first | decide)); intro yy; clear yy) | (rotate_left; (exact fun h => absurd h (by first | decide)); intro yy; clear yy) | decide | omega) | (with_reducible refine frc_bytesL (by first | omega | decide) ?_) | (with_reducible refine frc_bytesM (by first | omega | decide) ?_))
    refine ⟨j + 1, [0, 1], ⟨⟨rfl, rfl, rfl⟩, ?_⟩, hj, by dsimp only; omega⟩
    (repeat first | exact trivial | refine ent1 ?_)
end Sx
end Go.Proofs.YtnehmcpkeamghaaDoor
end

section
/-
  Check and Print of a value that was read. No condition.
-/
namespace Go.Proofs.YtnehmcpkeamghaaDoor
set_option linter.unusedVariables false
namespace Sx
open Go.RowKit Sha Vi Js

theorem fn_chk : ∀ (d depth : Nat), depth + d ≤ 8 → ChkC d depth
  | 0, depth, h => fn_chk1 0 depth h (fun d' e => by cases e)
  | d + 1, depth, h => fn_chk1 (d + 1) depth h (fun d' e => by
    injection e with e
    subst e
    exact fn_chk d (depth + 1) (by omega))
set_option maxRecDepth 20000 in
theorem fn_check {d : Nat} (hd : d ≤ 8) {W : World} {ms : List Nat} {v : JT} {x : JC} (hT : Tabs W ms) (hx : TAt W ms d v x) (hn : norm d v) (hl : (put d v).length ≤ 70368744177664) :
    FnR Tryd.prog tds 20 1 [[.past W ms]] [.agg (jvS v x)] (fun _ => True) (fun y hs => y = .a (.c (.int .i64 0)) ∧ hs = [[.past W ms]]) := by
  refine fn_of_body tds_ok follows_ Tryd.func20 rfl (t := .a (.agg (jvS v x)) :: anys (Tryd.f20.ntmps - 1)) rfl (fun w r0 hr0 _ => ?_)
  obtain ⟨x0, rfl⟩ := len1' hr0
  (repeat first | (refine And.intro ?_ ?_; first | exact rfl | ((exact fun h => absurd h (by first | decide)); intro yy; clear yy) | (rotate_left; (exact fun h => absurd h (by first | decide)); intro yy; clear yy) | decide | omega) | (with_reducible refine frc_bytesL (by first | omega | decide) ?_) | (with_reducible refine frc_bytesM (by first | omega | decide) ?_))
  refine call_same (fn_chk d 0 (by omega) W ms v x hT hx hn hl) [0, 2] rfl (by (repeat first | exact trivial | refine ent1 ?_)) (by (repeat first | exact trivial | refine ent1 ?_)) (fun _ _ => trivial) ?_
  rintro y hs ⟨rfl, rfl⟩
  exact ⟨.a (.c (.int .i64 0)), _, ⟨[0], ⟨rfl, rfl, rfl⟩, by (repeat first | exact trivial | refine ent1 ?_)⟩, rfl, rfl⟩
set_option maxRecDepth 20000 in
theorem fn_print {d : Nat} (hd : d ≤ 8) {W : World} {ms : List Nat} {v : JT} {x : JC} (hT : Tabs W ms) (hx : TAt W ms d v x) (hn : norm d v) (hl : (put d v).length ≤ 70368744177664) :
    FnR Tryd.prog tds 19 1 [[.past W ms]] [.agg (jvS v x)] (fun _ => True) (fun y hs => y = .tup [.c (.str (U8 (put d v))), .c (.int .i64 0)] ∧ hs = [[.past W ms]]) := by
  refine fn_of_body tds_ok follows_ Tryd.func19 rfl (t := .a (.agg (jvS v x)) :: anys (Tryd.f19.ntmps - 1)) rfl (fun w r0 hr0 _ => ?_)
  obtain ⟨x0, rfl⟩ := len1' hr0
  (repeat first | (refine And.intro ?_ ?_; first | exact rfl | ((exact fun h => absurd h (by first | decide)); intro yy; clear yy) | (rotate_left; (exact fun h => absurd h (by first | decide)); intro yy; clear yy) | decide | omega) | (with_reducible refine frc_bytesL (by first | omega | decide) ?_) | (with_reducible refine frc_bytesM (by first | omega | decide) ?_))
  refine call_same (fn_check hd hT hx hn hl) [0] rfl (by (repeat first | exact trivial | refine ent1 ?_)) (by (repeat first | exact trivial | refine ent1 ?_)) (fun _ _ => trivial) ?_
  rintro y hs ⟨rfl, rfl⟩
  (repeat first | (refine And.intro ?_ ?_; first | exact rfl | ((exact fun h => absurd h (by first | decide)); intro yy; clear yy) | (rotate_left; (exact fun h => absurd h (by first | decide)); intro yy; clear yy) | decide | omega) | (with_reducible refine frc_bytesL (by first | omega | decide) ?_) | (with_reducible refine frc_bytesM (by first | omega | decide) ?_))
  refine call_same (fn_putN d hT hx hn hl) [0] rfl (by (repeat first | exact trivial | refine ent1 ?_)) (by (repeat first | exact trivial | refine ent1 ?_)) (fun _ _ => trivial) ?_
  rintro y hs ⟨c', hc', rfl, rfl⟩
  (repeat first | (refine And.intro ?_ ?_; first | exact rfl | ((exact fun h => absurd h (by first | decide)); intro yy; clear yy) | (rotate_left; (exact fun h => absurd h (by first | decide)); intro yy; clear yy) | decide | omega) | (with_reducible refine frc_bytesL (by first | omega | decide) ?_) | (with_reducible refine frc_bytesM (by first | omega | decide) ?_))
  refine And.intro (by simp only [scale]; omega) ?_
  refine ⟨U8 (put d v), ⟨U8_len _, fun q hq => by show SC.mp _ (bytesF (put d v).length (L (put d v)) (q + 0)) = _; rw [Nat.add_zero, bytesF_lt hq, U8_get _ q hq]; rfl⟩, ?_⟩
  exact ⟨.tup [.c (.str (U8 (put d v))), .c (.int .i64 0)], _, ⟨[0], ⟨rfl, rfl, rfl⟩, by (repeat first | exact trivial | refine ent1 ?_)⟩, rfl, rfl⟩
end Sx
end Go.Proofs.YtnehmcpkeamghaaDoor
end

section
/-
  The same value, twice. No condition.
-/
namespace Go.Proofs.YtnehmcpkeamghaaDoor
set_option linter.unusedVariables false
namespace Sx
open Go.RowKit Sha Vi Js

theorem StAt.elt {W : World} {ms : List Nat} {a : Option Addr} {m c : Nat} {ns : List Bs} (h : StAt W ms a m c (ns.map U8)) {j : Nat} (hj : j < ns.length) : ∃ A, a = some A ∧ ImAt W ms (A.add (j * 1)) [.str (U8 ns[j])] := by
  have h1 := h.len
  simp only [List.length_map] at h1
  have h2 := h.le
  cases a with
  | none => exact absurd (h.nil rfl) (by omega)
  | some A => exact ⟨A, rfl, by rw [Nat.mul_one]; exact (h.im A rfl (by omega)).one (by simp [hj])⟩
theorem Unm.zero {W : World} {ms : List Nat} {a : Addr} (h : Unm W ms a) : Unm W ms (a.add 0) := by
  obtain ⟨B, f, s⟩ := a
  have h0 := h.1
  simp only at h0
  subst h0
  exact h
end Sx
end Go.Proofs.YtnehmcpkeamghaaDoor
end

section
/-
  The law of texts is awake. No condition.
-/
namespace Go.Proofs.YtnehmcpkeamghaaDoor
set_option linter.unusedVariables false
namespace Sx
open Go.RowKit Sha Vi Js

def awT : Bs := [123#8, 34#8, 97#8, 34#8, 58#8, 91#8, 49#8, 44#8, 110#8, 117#8, 108#8, 108#8, 93#8, 125#8]
def awV : JT := .mk 6#8 0#64 [] [.mk 5#8 0#64 [] [.mk 3#8 1#64 [] [] [], .mk 0#8 0#64 [] [] []] []] [[97#8]]
theorem awP : parse awT = .ok awV [] := by kernel_rfl
theorem awQ : put 8 awV = awT := by kernel_rfl
/-- What Parse answers, of a text of which it is known. -/
theorem fn_parse_ok {W : World} {ms : List Nat} (hT : Tabs W ms) {s : Bs} (hs : s.length ≤ 4611686018427387904) {v : JT} (h : parse s = .ok v []) : FnR Tryd.prog tds 17 1 [[.past W ms]] [.c (.str (U8 s))] (fun _ => True)
    (fun y hs => ∃ x W' ms', Later W ms W' ms' ∧ TAt W' ms' 8 v x ∧ y = .tup [.agg (jvS v x), .c (.int .i64 0), .c (.int .i64 0)] ∧ hs = [[.past W' ms']]) := by
  refine (fn_parse hT s hs).mono fun y hs hy => ?_
  rcases hy with ⟨v', x, W', ms', p1, p2, p3, rfl, rfl⟩ | ⟨e, k, W', ms', p1, _⟩
  · rw [h] at p1
    injection p1 with p1
    subst p1
    exact ⟨x, W', ms', p2, p3, rfl, rfl⟩
  · rw [h] at p1; cases p1
theorem fn_parse_bad {W : World} {ms : List Nat} (hT : Tabs W ms) {s : Bs} (hs : s.length ≤ 4611686018427387904) {e : Int} (h : parse s = .bad e) : FnR Tryd.prog tds 17 1 [[.past W ms]] [.c (.str (U8 s))] (fun _ => True)
    (fun y hs => ∃ k W' ms', k ≤ s.length ∧ e ≠ 0 ∧ Later W ms W' ms' ∧ y = .tup [.agg (jvS jt0 jc0), .c (.int .i64 ((k : Nat) : Int)), .c (.int .i64 e)] ∧ hs = [[.past W' ms']]) := by
  refine (fn_parse hT s hs).mono fun y hs hy => ?_
  rcases hy with ⟨v', x, W', ms', p1, p2, p3, rfl, rfl⟩ | ⟨e', k, W', ms', p1, p2, p3, p4, rfl, rfl⟩
  · rw [h] at p1; cases p1
  · rw [h] at p1
    injection p1 with p1
    subst p1
    exact ⟨k, W', ms', p3, p2, p4, rfl, rfl⟩
set_option maxRecDepth 20000 in
set_option maxHeartbeats 4000000 in
theorem fn_jawake {W : World} {ms : List Nat} (hT : Tabs W ms) : FnR Tryd.prog tds 16 1 [[.past W ms]] [] (fun _ => True) (fun y hs => ∃ W' ms', Later W ms W' ms' ∧ y = .a (.c (.bool true)) ∧ hs = [[.past W' ms']]) := by
  refine fn_of_bodyW tds_ok follows_ Tryd.func16 rfl (t := anys (Tryd.f16.ntmps)) rfl (fun w r0 hr0 _ => ?_)
  obtain ⟨x0, rfl⟩ := len1' hr0
  (repeat first | (refine And.intro ?_ ?_; first | exact rfl | ((exact fun h => absurd h (by first | decide)); intro yy; clear yy) | (rotate_left; (exact fun h => absurd h (by first | decide)); intro yy; clear yy) | decide | omega) | (with_reducible refine frc_bytesL (by first | omega | decide) ?_) | (with_reducible refine frc_bytesM (by first | omega | decide) ?_))
  refine call_past (fn_parse_ok hT (s := awT) (by decide) awP) 0 [] rfl rfl (by exact And.intro rfl trivial) (by (repeat first | exact trivial | refine ent1 ?_)) (fun _ _ => trivial) (fun x hs hr => ?_) ?_
  · obtain ⟨x, W', ms', hL, _, _, rfl⟩ := hr
    exact ⟨W', ms', rfl, hL⟩
  rintro y hs ⟨x, W', ms', hL, hx, rfl, rfl⟩
  (repeat first | (refine And.intro ?_ ?_; first | exact rfl | ((exact fun h => absurd h (by first | decide)); intro yy; clear yy) | (rotate_left; (exact fun h => absurd h (by first | decide)); intro yy; clear yy) | decide | omega) | (with_reducible refine frc_bytesL (by first | omega | decide) ?_) | (with_reducible refine frc_bytesM (by first | omega | decide) ?_))
  refine call_same (fn_print (Nat.le_refl _) (hT.later hL) hx (parse_ok awP).1 (by rw [awQ]; decide)) [0] rfl (by (repeat first | exact trivial | refine ent1 ?_)) (by (repeat first | exact trivial | refine ent1 ?_)) (fun _ _ => trivial) ?_
  rintro y hs ⟨rfl, rfl⟩
  rw [awQ]
  (repeat first | (refine And.intro ?_ ?_; first | exact rfl | ((exact fun h => absurd h (by first | decide)); intro yy; clear yy) | (rotate_left; (exact fun h => absurd h (by first | decide)); intro yy; clear yy) | decide | omega) | (with_reducible refine frc_bytesL (by first | omega | decide) ?_) | (with_reducible refine frc_bytesM (by first | omega | decide) ?_))
  exact FinW.of ⟨.a (.c (.bool true)), _, ⟨[0], ⟨rfl, rfl, rfl⟩, by (repeat first | exact trivial | refine ent1 ?_)⟩, W', ms', hL, rfl, rfl⟩
end Sx
end Go.Proofs.YtnehmcpkeamghaaDoor
end

section
/-
  The law JsonErrors. No condition.
-/
namespace Go.Proofs.YtnehmcpkeamghaaDoor
set_option linter.unusedVariables false
namespace Js
open Sha
def errOf : R JT → Int
  | .ok _ _ => 0
  | .bad e => e
def wT (i : Nat) : Bs := (([[], [110, 117, 108], [45, 49], [48, 49], [49, 56, 52, 52, 54, 55, 52, 52, 48, 55, 51, 55, 48, 57, 53, 53, 49, 54, 49, 54], [34, 97], [34, 10, 34], [34, 255, 34], [34, 92, 120, 34], [34, 92, 117, 49, 50, 34], [34, 92, 117, 100, 56, 48, 48, 34], [34, 92, 117, 100, 99, 48, 48, 34], [34, 92, 117, 100, 56, 48, 48, 92, 117, 48, 48, 52, 49, 34], [91, 49, 32, 50, 93], [91, 49, 44, 93], [123, 49, 58, 50, 125], [123, 34, 97, 34, 32, 49, 125], [123, 34, 97, 34, 58, 49, 44, 34, 97, 34, 58, 50, 125], [49, 32, 50], [91], [34, 92], [123, 34, 97, 34, 58, 49]] : List (List Nat)).getD i []).map (BitVec.ofNat 8)
def wE (i : Nat) : Int := ([23, 23, 23, 4, 2, 3, 4, 4, 4, 4, 4, 4, 4, 4, 23, 4, 4, 18, 24, 23, 3, 4] : List Int).getD i 0
theorem wP : ∀ i : _root_.Fin 22, errOf (parse (wT i.val)) = wE i.val := by decide +kernel
theorem wL : ∀ i : _root_.Fin 22, (wT i.val).length ≤ 100 := by decide +kernel
def nestT (n : Nat) : Bs := List.replicate n 91#8 ++ List.replicate n 93#8
def nestE (n : Nat) : Int := if n = 0 then 23 else if n ≤ 8 then 0 else 22
theorem nestP : ∀ i : _root_.Fin 12, errOf (parse (nestT i.val)) = nestE i.val := by decide +kernel
theorem nest_step (n : Nat) : nestT (n + 1) = 91#8 :: (nestT n ++ [93#8]) := by
  unfold nestT
  rw [List.replicate_succ, List.replicate_succ' (n := n) (a := 93#8)]
  simp
def esT : Bs := [34#8, 92#8, 117#8, 48#8, 48#8, 101#8, 57#8, 92#8, 117#8, 100#8, 56#8, 51#8, 100#8, 92#8, 117#8, 100#8, 101#8, 48#8, 48#8, 92#8, 47#8, 92#8, 98#8, 92#8, 102#8, 34#8]
def esV : JT := .mk 4#8 0#64 [195#8, 169#8, 240#8, 159#8, 152#8, 128#8, 47#8, 8#8, 12#8] [] []
theorem esP : parse esT = .ok esV [] := by kernel_rfl
theorem bigP : parse (List.replicate 1048577 0#8) = .bad 6 := by
  unfold parse
  rw [if_pos (by rw [List.length_replicate]; decide)]
end Js
namespace Sx
open Go.RowKit Sha Vi Js

theorem frc_atJ {x y : SC} {k : SC → Prop} (h : x = y) (hk : k y) : frcSC x k := by rw [h, frcSC_eq]; exact hk
theorem takeB_nilJ {n : Nat} {f : Nat → SC} {o : Nat} {k : List Seg → Prop} (h : k []) : takeB [] n f o k := h
theorem fn_parse_any {W : World} {ms : List Nat} (hT : Tabs W ms) {s : Bs} (hs : s.length ≤ 4611686018427387904) : FnR Tryd.prog tds 17 1 [[.past W ms]] [.c (.str (U8 s))] (fun _ => True)
    (fun y hs => ∃ v x p W' ms', Later W ms W' ms' ∧ y = .tup [.agg (jvS v x), .c (.int .i64 p), .c (.int .i64 (errOf (parse s)))] ∧ hs = [[.past W' ms']]) := by
  refine (fn_parse hT s hs).mono fun y hs hy => ?_
  rcases hy with ⟨v', x, W', ms', p1, p2, p3, rfl, rfl⟩ | ⟨e', k, W', ms', p1, p2, p3, p4, rfl, rfl⟩
  · exact ⟨v', x, 0, W', ms', p2, by rw [p1]; rfl, rfl⟩
  · exact ⟨jt0, jc0, k, W', ms', p4, by rw [p1]; rfl, rfl⟩
set_option maxRecDepth 20000 in
set_option maxHeartbeats 8000000 in
theorem fn_jerrs {W : World} {ms : List Nat} (hT : Tabs W ms) (a b : BitVec 8) : FnR Tryd.prog tds 4 1 [[.past W ms]] [.c (.w8 a), .c (.w8 b)] (fun _ => True) (fun y hs => ∃ W' ms', Later W ms W' ms' ∧ y = .a (.c (.bool true)) ∧ hs = [[.past W' ms']]) := by
  refine fn_of_bodyW tds_ok follows_ Tryd.func4 rfl (t := .a (.c (.w8 a)) :: .a (.c (.w8 b)) :: anys (Tryd.f4.ntmps - 2)) rfl (fun w r0 hr0 _ => ?_)
  obtain ⟨x0, rfl⟩ := len1' hr0
  (repeat first | (refine And.intro ?_ ?_; first | exact rfl | ((exact fun h => absurd h (by first | decide)); intro yy; clear yy) | (rotate_left; (exact fun h => absurd h (by first | decide)); intro yy; clear yy) | decide | omega) | (with_reducible refine frc_bytesL (by first | omega | decide) ?_) | (with_reducible refine frc_bytesM (by first | omega | decide) ?_))
  refine call_past (fn_jawake hT) 0 [] rfl rfl (by (repeat first | exact trivial | refine ent1 ?_)) (by (repeat first | exact trivial | refine ent1 ?_)) (fun _ _ => trivial) (fun x hs hr => ?_) ?_
  · obtain ⟨W', ms', hL, _, rfl⟩ := hr
    exact ⟨W', ms', rfl, hL⟩
  rintro y hs ⟨W', ms', hL, rfl, rfl⟩
  (repeat first | (refine And.intro ?_ ?_; first | exact rfl | ((exact fun h => absurd h (by first | decide)); intro yy; clear yy) | (rotate_left; (exact fun h => absurd h (by first | decide)); intro yy; clear yy) | decide | omega) | (with_reducible refine frc_bytesL (by first | omega | decide) ?_) | (with_reducible refine frc_bytesM (by first | omega | decide) ?_))
  have hi0 : (((a.toNat : Nat) : Int) % ((22 : Nat) : Int)).toNat = a.toNat % 22 := by omega
  have hi : a.toNat % 22 < 22 := Nat.mod_lt _ (by decide)
  generalize a.toNat % 22 = i at hi0 hi
  unfold elt
  dsimp only
  rw [hi0]
  have h22 : i = 0 ∨ i = 1 ∨ i = 2 ∨ i = 3 ∨ i = 4 ∨ i = 5 ∨ i = 6 ∨ i = 7 ∨ i = 8 ∨ i = 9 ∨ i = 10 ∨ i = 11 ∨ i = 12 ∨ i = 13 ∨ i = 14 ∨ i = 15 ∨ i = 16 ∨ i = 17 ∨ i = 18 ∨ i = 19 ∨ i = 20 ∨ i = 21 := by omega
  (repeat first | (refine And.intro ?_ ?_; first | exact rfl | ((exact fun h => absurd h (by first | decide)); intro yy; clear yy) | (rotate_left; (exact fun h => absurd h (by first | decide)); intro yy; clear yy) | decide | omega) | (with_reducible refine frc_bytesL (by first | omega | decide) ?_) | (with_reducible refine frc_bytesM (by first | omega | decide) ?_))
  refine takeB_nilJ ?_
  refine frc_atJ (y := .int .i64 (wE i)) (by rcases h22 with rfl | rfl | rfl | rfl | rfl | rfl | rfl | rfl | rfl | rfl | rfl | rfl | rfl | rfl | rfl | rfl | rfl | rfl | rfl | rfl | rfl | rfl <;> rfl) ?_
  refine frc_atJ (y := .str (U8 (wT i))) (by rcases h22 with rfl | rfl | rfl | rfl | rfl | rfl | rfl | rfl | rfl | rfl | rfl | rfl | rfl | rfl | rfl | rfl | rfl | rfl | rfl | rfl | rfl | rfl <;> rfl) ?_
  (repeat first | (refine And.intro ?_ ?_; first | exact rfl | ((exact fun h => absurd h (by first | decide)); intro yy; clear yy) | (rotate_left; (exact fun h => absurd h (by first | decide)); intro yy; clear yy) | decide | omega) | (with_reducible refine frc_bytesL (by first | omega | decide) ?_) | (with_reducible refine frc_bytesM (by first | omega | decide) ?_))
  refine call_past (fn_parse_any (hT.later hL) (s := wT i) (Nat.le_trans (wL ⟨i, hi⟩) (by decide))) 0 [] rfl rfl (by exact And.intro rfl trivial) (by (repeat first | exact trivial | refine ent1 ?_)) (fun _ _ => trivial) (fun x hs hr => ?_) ?_
  · obtain ⟨_, _, _, W', ms', hL, _, rfl⟩ := hr
    exact ⟨W', ms', rfl, hL⟩
  rintro y hs ⟨v1, x1, p1, W1, ms1, hL1, rfl, rfl⟩
  rw [wP ⟨i, hi⟩]
  dsimp only
  have hn12 : (b % 12#8).toNat < 12 := by rw [BitVec.toNat_umod]; exact Nat.mod_lt _ (by decide)
  (repeat first | (refine And.intro ?_ ?_; first | exact rfl | ((exact fun h => absurd h (by first | decide)); intro yy; clear yy) | (rotate_left; (exact fun h => absurd h (by first | decide)); intro yy; clear yy) | decide | omega) | (with_reducible refine frc_bytesL (by first | omega | decide) ?_) | (with_reducible refine frc_bytesM (by first | omega | decide) ?_))
  obtain ⟨Z, hZ, hZ2, hZ3⟩ : ∃ Z : Bs, Z.length = 1048577 ∧ (∀ q, q < Z.length → L Z q = 0#8) ∧ parse Z = .bad 6 := ⟨_, List.length_replicate, fun q hq => by rw [L_lt hq, List.getElem_replicate], bigP⟩
  have g1 : decide (wE i = wE i) = true := decide_eq_true rfl
  have g2 : decide (U8 esV.s = [195, 169, 240, 159, 152, 128, 47, 8, 12]) = true := by decide
  refine .inl ⟨Nat, fun j => ⟨[.any, .any, .any, .any, .any, .any, .a (.c (.p 1 0 0)), .any, .any, .a (.c (.int .i64 ((wE i)))), .a (.c (.int .i64 (((b % 12#8).toNat : Int)))), .a (.c (.str ((U8 (nestT j))))), .any, .any, .any, .any, .any, .any, .any, .any, .any, .any, .any, .any, .any, .any, .any, .any, .any, .any, .any, .any, .any, .any, .any, .any, .any, .any, .any, .any, .any, .any, .any, .any, .any, .any, .any, .any, .any, .any, .any, .any, .any, .any, .any, .any, .any, .any, .any, .any, .any, .any, .any, .any, .a (.c (.int .i64 (((b % 12#8).toNat : Int)))), .a (.c (.int .i64 (((j : Nat) : Int)))), .any, .any, .any, .any, .any, .any, .any, .any, .any, .any, .any, .any, .any, .any, .any, .any, .any, .any, .any, .any, .any, .any, .any, .any, .any, .any, .any, .any, .any, .any, .any, .any, .any, .any, .any, .any, .any, .any, .any, .any, .any, .any, .any, .any, .any, .any, .any, .any, .any, .any, .any, .any, .any, .any, .any, .any, .any], [[.past W1 ms1], [.one (.str (U8 (wT i))), .one (.int .i64 (wE i))]]⟩,
    fun j => j ≤ (b % 12#8).toNat, fun j => (b % 12#8).toNat - j, ⟨0, [0, 2], ⟨⟨rfl, rfl, rfl⟩, by (repeat first | exact trivial | refine ent1 ?_)⟩, Nat.zero_le _⟩, fun j hj0 => ?_⟩
  by_cases hj : j < (b % 12#8).toNat
  · have e1 : decide ((j : Int) < ((b % 12#8).toNat : Int)) = true := decide_eq_true (by omega)
    (repeat first | (refine And.intro ?_ ?_; first | exact rfl | ((exact fun h => absurd h (by first | decide | (rw [e1]; decide))); intro yy; clear yy) | (rotate_left; (exact fun h => absurd h (by first | decide | (rw [e1]; decide))); intro yy; clear yy) | decide | omega) | (with_reducible refine frc_bytesL (by first | omega | decide) ?_) | (with_reducible refine frc_bytesM (by first | omega | decide) ?_))
    have hs : ([91] : List UInt8) ++ U8 (nestT j) ++ [93] = U8 (nestT (j + 1)) := by rw [nest_step]; simp [U8]
    have hsl : (U8 (nestT j)).length = j + j := by rw [U8_len]; unfold nestT; rw [List.length_append, List.length_replicate, List.length_replicate]
    refine And.intro (show 1 + (U8 (nestT j)).length ≤ 9223372036854775807 by omega) ?_
    refine And.intro (show ([91] ++ U8 (nestT j)).length + 1 ≤ 9223372036854775807 by rw [List.length_append, hsl]; show 1 + _ + 1 ≤ _; omega) ?_
    (repeat first | (refine And.intro ?_ ?_; first | exact rfl | ((exact fun h => absurd h (by first | decide)); intro yy; clear yy) | (rotate_left; (exact fun h => absurd h (by first | decide)); intro yy; clear yy) | decide | omega) | (with_reducible refine frc_bytesL (by first | omega | decide) ?_) | (with_reducible refine frc_bytesM (by first | omega | decide) ?_))
    refine ⟨j + 1, [0, 1], ⟨⟨rfl, rfl, rfl⟩, ?_⟩, hj, by dsimp only; omega⟩
    (repeat first | exact trivial | refine ent1 ?_)
  have e1 : decide ((j : Int) < ((b % 12#8).toNat : Int)) = false := decide_eq_false (by omega)
  obtain rfl : j = (b % 12#8).toNat := by omega
  (repeat first | (refine And.intro ?_ ?_; first | exact rfl | ((exact fun h => absurd h (by first | decide | (rw [e1]; decide))); intro yy; clear yy) | (rotate_left; (exact fun h => absurd h (by first | decide | (rw [e1]; decide))); intro yy; clear yy) | decide | omega) | (with_reducible refine frc_bytesL (by first | omega | decide) ?_) | (with_reducible refine frc_bytesM (by first | omega | decide) ?_))
  generalize (b % 12#8).toNat = n at *
  refine call_past (fn_parse_any ((hT.later hL).later hL1) (s := nestT n) (by unfold nestT; rw [List.length_append, List.length_replicate, List.length_replicate]; omega)) 0 [] rfl rfl (by exact And.intro rfl trivial) (by (repeat first | exact trivial | refine ent1 ?_)) (fun _ _ => trivial) (fun x hs hr => ?_) ?_
  · obtain ⟨_, _, _, W', ms', hL, _, rfl⟩ := hr
    exact ⟨W', ms', rfl, hL⟩
  rintro y hs ⟨v2, x2, p2, W2, ms2, hL2, rfl, rfl⟩
  rw [nestP ⟨n, hn12⟩]
  dsimp only
  by_cases h0 : n = 0
  · have e0 : decide ((n : Int) = 0) = true := decide_eq_true (by omega)
    have e8 : decide ((n : Int) ≤ 8) = true := decide_eq_true (by omega)
    (repeat first | (refine And.intro ?_ ?_; first | exact rfl | ((exact fun h => absurd h (by first | decide | (rw [e0]; decide))); intro yy; clear yy) | (rotate_left; (exact fun h => absurd h (by first | decide | (rw [e0]; decide))); intro yy; clear yy) | decide | omega) | (with_reducible refine frc_bytesL (by first | omega | decide) ?_) | (with_reducible refine frc_bytesM (by first | omega | decide) ?_))
    refine call_past (fn_parse_ok (((hT.later hL).later hL1).later hL2) (s := esT) (by decide) esP) 0 [] rfl rfl (by exact And.intro rfl trivial) (by (repeat first | exact trivial | refine ent1 ?_)) (fun _ _ => trivial) (fun x hs hr => ?_) ?_
    · obtain ⟨_, W', ms', hL, _, _, rfl⟩ := hr
      exact ⟨W', ms', rfl, hL⟩
    rintro y hs ⟨x3, W3, ms3, hL3, hx3, rfl, rfl⟩
    (repeat first | (refine And.intro ?_ ?_; first | exact rfl | ((exact fun h => absurd h (by first | decide)); intro yy; clear yy) | (rotate_left; (exact fun h => absurd h (by first | decide)); intro yy; clear yy) | decide | omega) | (with_reducible refine frc_bytesL (by first | omega | decide) ?_) | (with_reducible refine frc_bytesM (by first | omega | decide) ?_))
    refine ⟨U8 Z, ⟨by rw [U8_len, hZ], fun q hq => ?_⟩, ?_⟩
    · rw [U8_get Z q (by rw [hZ]; exact hq), hZ2 q (by rw [hZ]; exact hq)]
      rfl
    (repeat first | (refine And.intro ?_ ?_; first | exact rfl | ((exact fun h => absurd h (by first | decide)); intro yy; clear yy) | (rotate_left; (exact fun h => absurd h (by first | decide)); intro yy; clear yy) | decide | omega) | (with_reducible refine frc_bytesL (by first | omega | decide) ?_) | (with_reducible refine frc_bytesM (by first | omega | decide) ?_))
    refine call_past (fn_parse_bad ((((hT.later hL).later hL1).later hL2).later hL3) (s := Z) (by rw [hZ]; decide) hZ3) 0 [] rfl rfl (by exact And.intro rfl trivial) (by (repeat first | exact trivial | refine ent1 ?_)) (fun _ _ => trivial) (fun x hs hr => ?_) ?_
    · obtain ⟨_, W', ms', _, _, hL, _, rfl⟩ := hr
      exact ⟨W', ms', rfl, hL⟩
    rintro y hs ⟨k4, W4, ms4, _, _, hL4, rfl, rfl⟩
    (repeat first | (refine And.intro ?_ ?_; first | exact rfl | ((exact fun h => absurd h (by first | decide | (rw [e8]; decide) | (rw [g1]; decide) | (rw [g2]; decide))); intro yy; clear yy) | (rotate_left; (exact fun h => absurd h (by first | decide | (rw [e8]; decide) | (rw [g1]; decide) | (rw [g2]; decide))); intro yy; clear yy) | decide | omega) | (with_reducible refine frc_bytesL (by first | omega | decide) ?_) | (with_reducible refine frc_bytesM (by first | omega | decide) ?_))
    (repeat first | (refine And.intro ?_ ?_; first | exact rfl | ((exact fun h => absurd h (by first | decide | (rw [e8]; decide) | (rw [g1]; decide) | (rw [g2]; decide))); intro yy; clear yy) | (rotate_left; (exact fun h => absurd h (by first | decide | (rw [e8]; decide) | (rw [g1]; decide) | (rw [g2]; decide))); intro yy; clear yy) | decide | omega) | (with_reducible refine frc_bytesL (by first | omega | decide) ?_) | (with_reducible refine frc_bytesM (by first | omega | decide) ?_))
    exact FinW.of ⟨.a (.c (.bool true)), _, ⟨[0], ⟨rfl, rfl, rfl⟩, by (repeat first | exact trivial | refine ent1 ?_)⟩, W4, ms4, ((((hL.trans hL1).trans hL2).trans hL3).trans hL4), rfl, rfl⟩
  have e0 : decide ((n : Int) = 0) = false := decide_eq_false (by omega)
  by_cases h8 : n ≤ 8
  · have e8 : decide ((n : Int) ≤ 8) = true := decide_eq_true (by omega)
    rw [show nestE n = 0 by unfold nestE; rw [if_neg h0, if_pos h8]]
    (repeat first | (refine And.intro ?_ ?_; first | exact rfl | ((exact fun h => absurd h (by first | decide | (rw [e0]; decide))); intro yy; clear yy) | (rotate_left; (exact fun h => absurd h (by first | decide | (rw [e0]; decide))); intro yy; clear yy) | decide | omega) | (with_reducible refine frc_bytesL (by first | omega | decide) ?_) | (with_reducible refine frc_bytesM (by first | omega | decide) ?_))
    refine call_past (fn_parse_ok (((hT.later hL).later hL1).later hL2) (s := esT) (by decide) esP) 0 [] rfl rfl (by exact And.intro rfl trivial) (by (repeat first | exact trivial | refine ent1 ?_)) (fun _ _ => trivial) (fun x hs hr => ?_) ?_
    · obtain ⟨_, W', ms', hL, _, _, rfl⟩ := hr
      exact ⟨W', ms', rfl, hL⟩
    rintro y hs ⟨x3, W3, ms3, hL3, hx3, rfl, rfl⟩
    (repeat first | (refine And.intro ?_ ?_; first | exact rfl | ((exact fun h => absurd h (by first | decide)); intro yy; clear yy) | (rotate_left; (exact fun h => absurd h (by first | decide)); intro yy; clear yy) | decide | omega) | (with_reducible refine frc_bytesL (by first | omega | decide) ?_) | (with_reducible refine frc_bytesM (by first | omega | decide) ?_))
    refine ⟨U8 Z, ⟨by rw [U8_len, hZ], fun q hq => ?_⟩, ?_⟩
    · rw [U8_get Z q (by rw [hZ]; exact hq), hZ2 q (by rw [hZ]; exact hq)]
      rfl
    (repeat first | (refine And.intro ?_ ?_; first | exact rfl | ((exact fun h => absurd h (by first | decide)); intro yy; clear yy) | (rotate_left; (exact fun h => absurd h (by first | decide)); intro yy; clear yy) | decide | omega) | (with_reducible refine frc_bytesL (by first | omega | decide) ?_) | (with_reducible refine frc_bytesM (by first | omega | decide) ?_))
    refine call_past (fn_parse_bad ((((hT.later hL).later hL1).later hL2).later hL3) (s := Z) (by rw [hZ]; decide) hZ3) 0 [] rfl rfl (by exact And.intro rfl trivial) (by (repeat first | exact trivial | refine ent1 ?_)) (fun _ _ => trivial) (fun x hs hr => ?_) ?_
    · obtain ⟨_, W', ms', _, _, hL, _, rfl⟩ := hr
      exact ⟨W', ms', rfl, hL⟩
    rintro y hs ⟨k4, W4, ms4, _, _, hL4, rfl, rfl⟩
    (repeat first | (refine And.intro ?_ ?_; first | exact rfl | ((exact fun h => absurd h (by first | decide | (rw [e8]; decide) | (rw [g1]; decide) | (rw [g2]; decide))); intro yy; clear yy) | (rotate_left; (exact fun h => absurd h (by first | decide | (rw [e8]; decide) | (rw [g1]; decide) | (rw [g2]; decide))); intro yy; clear yy) | decide | omega) | (with_reducible refine frc_bytesL (by first | omega | decide) ?_) | (with_reducible refine frc_bytesM (by first | omega | decide) ?_))
    (repeat first | (refine And.intro ?_ ?_; first | exact rfl | ((exact fun h => absurd h (by first | decide | (rw [e8]; decide) | (rw [g1]; decide) | (rw [g2]; decide))); intro yy; clear yy) | (rotate_left; (exact fun h => absurd h (by first | decide | (rw [e8]; decide) | (rw [g1]; decide) | (rw [g2]; decide))); intro yy; clear yy) | decide | omega) | (with_reducible refine frc_bytesL (by first | omega | decide) ?_) | (with_reducible refine frc_bytesM (by first | omega | decide) ?_))
    exact FinW.of ⟨.a (.c (.bool true)), _, ⟨[0], ⟨rfl, rfl, rfl⟩, by (repeat first | exact trivial | refine ent1 ?_)⟩, W4, ms4, ((((hL.trans hL1).trans hL2).trans hL3).trans hL4), rfl, rfl⟩
  have e8 : decide ((n : Int) ≤ 8) = false := decide_eq_false (by omega)
  rw [show nestE n = 22 by unfold nestE; rw [if_neg h0, if_neg h8]]
  (repeat first | (refine And.intro ?_ ?_; first | exact rfl | ((exact fun h => absurd h (by first | decide | (rw [e0]; decide))); intro yy; clear yy) | (rotate_left; (exact fun h => absurd h (by first | decide | (rw [e0]; decide))); intro yy; clear yy) | decide | omega) | (with_reducible refine frc_bytesL (by first | omega | decide) ?_) | (with_reducible refine frc_bytesM (by first | omega | decide) ?_))
  refine call_past (fn_parse_ok (((hT.later hL).later hL1).later hL2) (s := esT) (by decide) esP) 0 [] rfl rfl (by exact And.intro rfl trivial) (by (repeat first | exact trivial | refine ent1 ?_)) (fun _ _ => trivial) (fun x hs hr => ?_) ?_
  · obtain ⟨_, W', ms', hL, _, _, rfl⟩ := hr
    exact ⟨W', ms', rfl, hL⟩
  rintro y hs ⟨x3, W3, ms3, hL3, hx3, rfl, rfl⟩
  (repeat first | (refine And.intro ?_ ?_; first | exact rfl | ((exact fun h => absurd h (by first | decide)); intro yy; clear yy) | (rotate_left; (exact fun h => absurd h (by first | decide)); intro yy; clear yy) | decide | omega) | (with_reducible refine frc_bytesL (by first | omega | decide) ?_) | (with_reducible refine frc_bytesM (by first | omega | decide) ?_))
  refine ⟨U8 Z, ⟨by rw [U8_len, hZ], fun q hq => ?_⟩, ?_⟩
  · rw [U8_get Z q (by rw [hZ]; exact hq), hZ2 q (by rw [hZ]; exact hq)]
    rfl
  (repeat first | (refine And.intro ?_ ?_; first | exact rfl | ((exact fun h => absurd h (by first | decide)); intro yy; clear yy) | (rotate_left; (exact fun h => absurd h (by first | decide)); intro yy; clear yy) | decide | omega) | (with_reducible refine frc_bytesL (by first | omega | decide) ?_) | (with_reducible refine frc_bytesM (by first | omega | decide) ?_))
  refine call_past (fn_parse_bad ((((hT.later hL).later hL1).later hL2).later hL3) (s := Z) (by rw [hZ]; decide) hZ3) 0 [] rfl rfl (by exact And.intro rfl trivial) (by (repeat first | exact trivial | refine ent1 ?_)) (fun _ _ => trivial) (fun x hs hr => ?_) ?_
  · obtain ⟨_, W', ms', _, _, hL, _, rfl⟩ := hr
    exact ⟨W', ms', rfl, hL⟩
  rintro y hs ⟨k4, W4, ms4, _, _, hL4, rfl, rfl⟩
  (repeat first | (refine And.intro ?_ ?_; first | exact rfl | ((exact fun h => absurd h (by first | decide | (rw [e8]; decide) | (rw [g1]; decide) | (rw [g2]; decide))); intro yy; clear yy) | (rotate_left; (exact fun h => absurd h (by first | decide | (rw [e8]; decide) | (rw [g1]; decide) | (rw [g2]; decide))); intro yy; clear yy) | decide | omega) | (with_reducible refine frc_bytesL (by first | omega | decide) ?_) | (with_reducible refine frc_bytesM (by first | omega | decide) ?_))
  (repeat first | (refine And.intro ?_ ?_; first | exact rfl | ((exact fun h => absurd h (by first | decide | (rw [e8]; decide) | (rw [g1]; decide) | (rw [g2]; decide))); intro yy; clear yy) | (rotate_left; (exact fun h => absurd h (by first | decide | (rw [e8]; decide) | (rw [g1]; decide) | (rw [g2]; decide))); intro yy; clear yy) | decide | omega) | (with_reducible refine frc_bytesL (by first | omega | decide) ?_) | (with_reducible refine frc_bytesM (by first | omega | decide) ?_))
  exact FinW.of ⟨.a (.c (.bool true)), _, ⟨[0], ⟨rfl, rfl, rfl⟩, by (repeat first | exact trivial | refine ent1 ?_)⟩, W4, ms4, ((((hL.trans hL1).trans hL2).trans hL3).trans hL4), rfl, rfl⟩
end Sx
end Go.Proofs.YtnehmcpkeamghaaDoor
end

section
/-
  What the listed tables give a walk; a law's start. No condition.
-/
namespace Go.Proofs.YtnehmcpkeamghaaDoor
set_option linter.unusedVariables false
namespace Sx
open Go.RowKit Sha Vi Js

theorem laysU8 : Go.Proofs.Lays.n260 Tryd.prog Tryd.lays197_ren := { Tryd.lays197 with }
theorem extraU8 : Go.Proofs.U8Extra Tryd.prog Tryd.lays197_ren := ⟨by kernel_rfl, by kernel_rfl, by kernel_rfl, by kernel_rfl, by kernel_rfl, by kernel_rfl, by kernel_rfl⟩
theorem first_eq : Rows.laid_unicode_utf8_first = Lib.firstData := by kernel_rfl
theorem accept_eq : (Rows.laid_unicode_utf8_acceptRanges : DataW Unit) = Lib.acceptData := by kernel_rfl
theorem pow_eq : (Rows.laid_internal_strconv_uint64pow10 : DataW Unit) = Lib.tabData .u64 Lib.pow10Tab := by kernel_rfl
theorem tabIs_reads {P : Program} {W : World} {name : String} {k : IntKind} {zs : List Int} {g : Nat} {t e : TypeId} {n : Nat}
    (hg : P.globalNamed name = some g) (hty : (P.globals[g]?).map (·.type) = some t) (ht : P.underlying t = some (.array n e)) (he : P.underlying e = some (.int k)) (hce : P.cellsOf e = 1) (hct : P.cellsOf t = n)
    (h : Lib.VarReads P W name (Lib.tabData k zs)) : Lib.TabIs P W name k zs := by
  obtain ⟨g', t', cs, fuel, p, hg', ht', hvar, hd⟩ := h
  obtain rfl := Option.some.inj (hg.symm.trans hg')
  obtain rfl := Option.some.inj (hty.symm.trans ht')
  unfold Lib.TabIs
  rw [hvar, ← Lib.cells_of_tab ht he hce hct hd]
theorem size_reads {P : Program} {W : World} {name : String} {d : DataW Unit} {g : Nat} (hg : P.globalNamed name = some g) (h : Lib.VarReads P W name d) : g < W.heap.size := by
  obtain ⟨g', t', cs, fuel, p, hg', ht', hvar, hd⟩ := h
  obtain rfl := Option.some.inj (hg.symm.trans hg')
  rcases Nat.lt_or_ge g W.heap.size with h | h
  · exact h
  · unfold World.var? at hvar
    rw [hg] at hvar
    simp [Array.getElem?_eq_none h] at hvar
theorem tabs_of_laid {W : World} (h : laidMetH Tryd.prog Rows.jsonErrorsRow.laid W) : Tabs W [] := by
  rw [MakeChecks.laidMetH_plain _ _ _ (by kernel_rfl)] at h
  have r5 := Lib.laidMet.reads h (.tail _ (.head _))
  have r3 := Lib.laidMet.reads h (.tail _ (.tail _ (.head _)))
  have r1 := Lib.laidMet.reads h (.tail _ (.tail _ (.tail _ (.head _))))
  have r0 := Lib.laidMet.reads h (.tail _ (.tail _ (.tail _ (.tail _ (.head _)))))
  rw [first_eq] at r0
  rw [accept_eq] at r1
  rw [pow_eq] at r3
  refine ⟨Go.Proofs.utf8Tabs_of_reads laysU8 extraU8 r0 r1, tabIs_reads (P := Tryd.prog) (name := p10n) p10_glob (by kernel_rfl) (t := 156) (e := 23) (n := 20) Tryd.underlying156 Tryd.underlying23 (by kernel_rfl) (by kernel_rfl) (by exact r3), ?_, fun B _ => List.not_mem_nil⟩
  exact size_reads (g := 5) (by kernel_rfl) r5
end Sx
end Go.Proofs.YtnehmcpkeamghaaDoor
end

section
/-
  From a function over blocks to a law's walk: arguments opened. Over any program. No condition of its own.
-/
namespace Go.Proofs.YtnehmcpkeamghaaDoor
set_option linter.unusedVariables false
namespace Sx
open Go.RowKit Go.ChangeShapes Go.WideShapes

section
variable {H : Type} {enc : TypeId × Value → H} {P : Program} {w : World} {base : Nat} {sp : Nat → Bool} {held : Bool}
theorem wf_w8 {a : Int} (h : (Lit.int .u8 a).wf = true) : a = ((BitVec.ofInt 8 a).toNat : Int) := by
  have := bounds_u8 h
  rw [BitVec.toNat_ofInt]
  omega
end
theorem isAs_nil (r : Rho) : IsAs r [] [] := ⟨rfl, fun j x e => by simp at e⟩
theorem isAs_cons {r : Rho} {x : SA} {v : Value} {l : List SA} {vs : List Value} (h : SA.Is r x v) (hs : IsAs r l vs) : IsAs r (x :: l) (v :: vs) :=
  ⟨by simpa using hs.1, fun j y e => by
    cases j with
    | zero => simp at e; subst e; exact ⟨v, rfl, h⟩
    | succ j => exact hs.2 j y e⟩
/-- A law's walk. -/
theorem Fn.law {P : Program} {T : List (Nat × TD)} {f : FuncId} {args : List SA} {raw : World → Prop} (h : Fn P T f [] args raw (fun x hs => x = .a (.c (.bool true)) ∧ hs = [])) {w : World} {vs : List Value} (ha : IsAs [] args vs) (hr : raw w) :
    Calls P f vs.toArray w fun e w' => e = .returned (.bool true) ∧ Below w.heap.size w w' := by
  refine (Fn.calls h ha hr).mono ?_
  rintro e w' ⟨v, x, hs, r', rfl, hx, hok, rfl, rfl⟩
  obtain rfl : v = .bool true := hx
  exact ⟨rfl, hok.ext.below0⟩
end Sx
end Go.Proofs.YtnehmcpkeamghaaDoor
end

section
/-
  Numbers of sixteen bits as arguments. Over any program. No condition of its own.
-/
namespace Go.Proofs.YtnehmcpkeamghaaDoor
set_option linter.unusedVariables false
namespace Sx
open Go.ChangeShapes

end Sx
end Go.Proofs.YtnehmcpkeamghaaDoor
end

section
/-
  From a function over blocks that are only read to a law's walk: slices of bytes that came in. Over any program. No condition of its own.
-/
namespace Go.Proofs.YtnehmcpkeamghaaDoor
set_option linter.unusedVariables false
namespace Sx
open Go.RowKit Go.ChangeShapes Go.WideShapes Sha

/-- A slice of bytes that came in: nil (z) or not, its bytes, where they lie. -/
structure InB (w : World) (a : Option Addr) (n c : Nat) (z : Bool) (l : Bs) (B f : Nat) : Prop where
  len : l.length = n
  le : n ≤ c
  cap : c ≤ maxLen
  nil : z = true → l = []
  val : ∀ (r : Rho) (i : Nat), r[i]? = some (B, f) → SC.Is r (.sn z i 0 0 n c) (.slice a n c)
  at_ : ∀ r : Rho, At false r w B f (flat (bts z n 0 n (L l)))
/-- The blocks lie where r says. -/
def AllAt (R : Rho) (w : World) : List (List Seg) → Rho → Prop
  | [], [] => True
  | ch :: h, (B, f) :: r => At false R w B f (flat ch) ∧ AllAt R w h r
  | _, _ => False
theorem AllAt.len {R : Rho} {w : World} : ∀ {h : List (List Seg)} {r : Rho}, AllAt R w h r → r.length = h.length
  | [], [], _ => rfl
  | _ :: h, _ :: r, k => by rw [List.length_cons, List.length_cons, AllAt.len k.2]
  | [], _ :: _, k => k.elim
  | _ :: _, [], k => k.elim
theorem AllAt.get {R : Rho} {w : World} : ∀ {h : List (List Seg)} {r : Rho}, AllAt R w h r → ∀ (i : Nat) (ch : List Seg) (B f : Nat), h[i]? = some ch → r[i]? = some (B, f) → At false R w B f (flat ch)
  | [], [], _, i, _, _, _, e, _ => by simp at e
  | c :: h, (B', f') :: r, k, 0, _, _, _, e1, e2 => by
    simp at e1 e2
    obtain ⟨rfl, rfl⟩ := e2
    subst e1
    exact k.1
  | c :: h, (B', f') :: r, k, i + 1, _, _, _, e1, e2 => k.2.get i _ _ _ (by simpa using e1) (by simpa using e2)
theorem heapOk_ro {P : Program} {T : List (Nat × TD)} {w : World} {r0 : Rho} {h0 : List (List Seg)} (hat : AllAt r0 w h0 r0) (hp : ∀ (i : Nat) (W : World) (ms : List Nat), h0[i]? = some [.past W ms] → W = w) : HeapOk (cx0 P T w r0 h0.length h0) h0 r0 w := by
  have hlen := hat.len
  have hget : ∀ i, h0[i]? = some (getH h0 i) ∨ h0[i]? = none := fun i => by
    rcases Nat.lt_or_ge i h0.length with h | h
    · exact .inl (by rw [List.getElem?_eq_getElem h]; have := getH_eq h0 i; rw [List.getElem?_eq_getElem h] at this; simpa using this.symm)
    · exact .inr (List.getElem?_eq_none h)
  have out : ∀ (i : Nat) (x : Nat × Nat), h0.length ≤ i → r0[i]? = some x → False := fun i x hi e => by
    rw [List.getElem?_eq_none (by omega)] at e; cases e
  refine ⟨Ext.refl _ _, RLe.refl _, Nat.le_of_eq hlen.symm, hlen, fun i ch B f hi hr => ?_, fun i B f ho hr => (out i _ ho hr).elim, fun i B f ho hr => (out i _ ho hr).elim, fun i B f ho hl hr => ?_, fun i ch ho hl hi => ?_, fun i j B f f' ch ch' hij o1 o2 h1 h2 r1 r2 => (out i _ o1 r1).elim, fun i m B f ho _ hr => (out i _ ho hr).elim, fun i W ms hi => ?_⟩
  · have hil : i < h0.length := (List.getElem?_eq_some_iff.1 hi).1
    have : Nat.ble h0.length i = false := by
      cases e : Nat.ble h0.length i
      · rfl
      · have := ble_le e; omega
    show At (Nat.ble h0.length i) _ _ _ _ _
    rw [this]
    exact hat.get i ch B f hi hr
  · refine ⟨?_, ?_⟩
    · show B ∉ (r0.drop h0.length).map (·.1)
      rw [List.drop_eq_nil_of_le (by omega)]
      simp
    · rcases hget i with e | e
      · exact (hat.get i _ B f e hr).lt hl
      · rw [List.getElem?_eq_none_iff] at e
        exact (out i _ e hr).elim
  · have hl : ¬ flat (getH h0 i) ≠ [] := hl
    rcases hget i with e | e
    · rw [hi] at e
      injection e with e
      rw [e]
      exact Classical.not_not.1 hl
    · rw [hi] at e; cases e
  · obtain rfl := hp i W ms hi
    exact ⟨Ext.refl _ _, fun B _ h2 h3 => ⟨i, _, ms, hi, h2, h3⟩, fun j B f ho hr => (out j _ ho hr).elim⟩
def NoPast : List (List Seg) → Prop
  | [] => True
  | l :: r => (∀ W ms, l ≠ [.past W ms]) ∧ NoPast r
theorem NoPast.get {w : World} : ∀ {h : List (List Seg)}, NoPast h → ∀ (i : Nat) (W : World) (ms : List Nat), h[i]? = some [.past W ms] → W = w
  | [], _, i, _, _, e => by simp at e
  | l :: h, k, 0, W, ms, e => by simp at e; exact absurd e (k.1 W ms)
  | l :: h, k, i + 1, W, ms, e => NoPast.get k.2 i W ms (by simpa using e)
theorem bts_np (z : Bool) (N o n : Nat) (b : Nat → BitVec 8) (W : World) (ms : List Nat) : bts z N o n b ≠ [.past W ms] := by
  cases z <;> (intro e; simp [bts] at e)
/-- A law's walk: what came in is only read. -/
theorem FnR.law {P : Program} {T : List (Nat × TD)} {f : FuncId} {n : Nat} {h0 : List (List Seg)} {args : List SA} {raw : World → Prop} {w : World} {vs : List Value} {r0 : Rho} (h : FnR P T f n h0 args raw (fun x _ => x = .a (.c (.bool true)))) (hn : n = h0.length)
    (hat : AllAt r0 w h0 r0) (ha : IsAs r0 args vs) (hr : raw w) (hp : NoPast h0 := by (repeat' first | exact trivial | refine And.intro ?_ ?_ | exact Go.Proofs.YtnehmcpkeamghaaDoor.Sx.bts_np _ _ _ _ _ | (intro W ms e; cases e))) :
    Calls P f vs.toArray w fun e w' => e = .returned (.bool true) ∧ Below w.heap.size w w' := by
  subst hn
  refine (h w r0 vs (heapOk_ro hat hp.get) ha hr).mono ?_
  rintro e w' ⟨v, x, hs, r', rfl, hx, hok, rfl⟩
  obtain rfl : v = .bool true := hx
  refine ⟨rfl, ?_⟩
  have e : Ext ((r0.drop h0.length).map (·.1)) w w' := hok.ext
  rw [List.drop_eq_nil_of_le (by rw [hat.len]; exact Nat.le_refl _)] at e
  exact e.below0
end Sx
end Go.Proofs.YtnehmcpkeamghaaDoor
end

section
/-
  From a function over blocks to a law's walk: structs with slices of bytes that came in. Over any program. No condition of its own.
-/
namespace Go.Proofs.YtnehmcpkeamghaaDoor
set_option linter.unusedVariables false
namespace Sx
open Go.RowKit Go.ChangeShapes Go.WideShapes Sha Vi

/-- What slices of bytes keep to, however long. -/
structure Sl.Fit (s : Sl) : Prop where
  fit : s.o + s.l.length ≤ s.N
  cap : s.l.length ≤ s.c
  nil : s.z = true → s.l = []
theorem Sl.Fit.ok {s : Sl} (h : s.Fit) (hs : s.l.length ≤ 1000000) : s.Ok := ⟨h.fit, h.cap, h.nil, hs⟩
/-- A slice that came in. -/
abbrev slI (z : Bool) (c : Nat) (l : Bs) : Sl := ⟨z, l.length, 0, c, l⟩
theorem InB.fit {w : World} {a : Option Addr} {n c : Nat} {z : Bool} {l : Bs} {B f : Nat} (h : InB w a n c z l B f) : (slI z c l).Fit :=
  ⟨by simp, by have := h.len; have := h.le; show l.length ≤ c; omega, h.nil⟩
end Sx
end Go.Proofs.YtnehmcpkeamghaaDoor
end

section
/-
  A law whose arguments are raw. No condition.
-/
namespace Go.Proofs.YtnehmcpkeamghaaDoor
set_option linter.unusedVariables false
namespace Sx
open Go.RowKit Go.ChangeShapes Go.WideShapes Sha Vi

theorem FnR.lawJ {P : Program} {T : List (Nat × TD)} {f : FuncId} {args : List SA} {w : World} {vs : List Value} (h : FnR P T f 1 [[.past w []]] args (fun _ => True) (fun x _ => x = .a (.c (.bool true))))
    (ha : IsAs [(0, 0)] args vs) : Calls P f vs.toArray w fun e w' => e = .returned (.bool true) ∧ Below w.heap.size w w' := by
  have hat : AllAt [(0, 0)] w [[.past w []]] [(0, 0)] := ⟨fun j x e => by simp [flat] at e, trivial⟩
  refine (h w [(0, 0)] vs (heapOk_ro hat (fun i W ms e => ?_)) ha trivial).mono ?_
  · cases i with
    | zero => simp at e; exact e.1.symm
    | succ i => simp at e
  · rintro e w' ⟨v, x, hs, r', rfl, hx, hok, rfl⟩
    obtain rfl : v = .bool true := hx
    refine ⟨rfl, ?_⟩
    have e : Ext (([((0 : Nat), (0 : Nat))].drop 1).map (·.1)) w w' := hok.ext
    exact e.below0
end Sx
end Go.Proofs.YtnehmcpkeamghaaDoor
end
