/-
  Texts of this claim, part 9: EpH, EpI. No condition of its own.
-/
import Derived.Test.YtdakmieapdpidaaG8
section
/-
  The law BlogErrors. No condition.
-/
namespace Go.Proofs.Ytdakmieapdpidaa
set_option linter.unusedVariables false
namespace Sx
open Go.RowKit Sha Vi Ev

theorem RowAt.im {W : World} {ms : List Nat} {A : Addr} {cs m : List SC} {es : List Ev} (k : RowAt W ms cs es) (h : cs.length ≠ 0 → ImAt W ms A m) (hm : ∀ j, j < cs.length → m[j]? = some (nthC cs j)) {n c : Nat} (hn : es.length = n) (hc : n ≤ c) (hcap : n ≤ 9223372036854775807) : EvsAt W ms (some (A.add (0 + 0))) n c es := by
  have hlen := k.len
  refine ⟨hn, hc, hcap, (fun e => by cases e), fun B hB j e he => ?_⟩
  injection hB with hB
  subst hB
  obtain ⟨x, h1, h2⟩ := k.elt j e he
  have hj : j < es.length := (List.getElem?_eq_some_iff.1 he).1
  refine ⟨x, (((h (by omega)).part (0 + 0) (m := m) (fun j x hx => by simpa using hx)).part (j * 4) fun i y hy => ?_), h2⟩
  have hcs := h1 i y hy
  rw [hm _ (List.getElem?_eq_some_iff.1 hcs).1, nthC_get? hcs]
theorem map_keep {cs : List SC} {φ : SC → SC} (hφ : ∀ x : SC, x.raw = x → φ x = x) (h : ∀ x ∈ cs, x.raw = x) : cs.map φ = cs := by
  refine (List.map_congr_left (g := id) fun x hx => hφ x (h x hx)).trans (List.map_id _)
theorem nthC_map {L : List SC} {φ : SC → SC} {j : Nat} (h : j < L.length) : nthC (L.map φ) j = φ (nthC L j) :=
  nthC_get? (by rw [List.getElem?_map, nthC_get h]; rfl)
theorem rz_id {F : Nat → Bool} {α : Nat → Addr} {x : SC} (h : x.raw = x) : x.rz F α = x := by
  cases x <;> simp only [SC.raw] at h <;> first | rfl | cases h
theorem manyE_succ (i : Nat) : manyE (i + 1) = manyE i ++ [⟨6#8, 0#64, [BitVec.ofNat 64 i], []⟩] := by
  unfold manyE; rw [List.range_succ, List.map_append]; rfl
theorem upd_rz {cs new new' : List SC} {i o : Nat} {q : List Nat} {F : Nat → Bool} {α : Nat → Addr} (hcs : cs.length = i * 4) (hraw : ∀ x ∈ cs, x.raw = x) (hn : new'.length = 4) (ho : o = i * 4) (hnew : ∀ j, j < 4 → eqC q ((nthC new j).rz F α) (nthC new' j) True) (j : Nat) :
    eqC q (SC.rz F α (updN (nthC cs) o 4 (nthC new) j)) (nthC (cs ++ new') j) True := by
  subst ho
  unfold updN
  rcases Nat.lt_or_ge j (i * 4) with h | h
  · rw [if_neg (by omega), nthC_app_l (by omega)]
    have hr := hraw _ (nthC_mem (show j < cs.length by omega))
    have : (nthC cs j).rz F α = nthC cs j := rz_id hr
    rw [this]
    exact eqC_raw hr
  · rcases Nat.lt_or_ge j (i * 4 + 4) with h2 | h2
    · rw [if_pos ⟨h, h2⟩, nthC_app_r (by omega), hcs]
      exact hnew _ (by omega)
    · rw [nthC_out (l := cs ++ new') (by rw [List.length_append]; omega)]
      trivial
/-- The row that the law's own function made, lent. -/
theorem lendN {W W' : World} {ms ms' : List Nat} {cs : List SC} {es : List Ev} {n c k nb nr : Nat} {t : BitVec 64} {α : Nat → Addr} {F : Nat → Bool} {g : Nat → Nat} (hr : RowAt W ms cs es) (hL : Later W ms W' ms') (hg : g 3 = nb) (hF : F nb = true) (hk : k ≤ n) (hn : es.length = n) (hc : n + 1 ≤ c) (hn2 : n ≤ 1000)
    (h1 : ImAt W' ms' (α nb) [.w64 1#64]) (h2 : flat (mpL g [.row (scale c (3 + 1)) (nthC ((cs.take (k * 4) ++ ev4 t) ++ cs.drop (k * 4)))]) ≠ [] → ImAt W' ms' (α nr) (((flat (mpL g [.row (scale c (3 + 1)) (nthC ((cs.take (k * 4) ++ ev4 t) ++ cs.drop (k * 4)))])).map (SC.rz F α)).map SC.raw)) :
    EvsAt W' ms' (some ((α nr).add (0 + 0))) (n + 1) c (es.take k ++ ⟨6#8, t, [1#64], []⟩ :: es.drop k) := by
  have hcl := hr.len
  have hev : EvAt W' ms' ⟨some ((α nb).add (0 + 0)), 1, 1, none, 0, 0⟩ ⟨6#8, t, [1#64], []⟩ :=
    ⟨⟨rfl, Nat.le_refl _, (show (1 : Nat) ≤ 9223372036854775807 by decide), (fun e => by cases e), fun x e _ => by injection e with e; subst e; exact h1.part (0 + 0) (fun j x hx => by simpa using hx)⟩, SlAt.nul⟩
  have hR : RowAt W' ms' ((cs.take (k * 4) ++ flat (evS ⟨6#8, t, [1#64], []⟩ ⟨some ((α nb).add (0 + 0)), 1, 1, none, 0, 0⟩)) ++ cs.drop (k * 4)) (es.take k ++ ⟨6#8, t, [1#64], []⟩ :: es.drop k) := by
    have := (((hr.later hL).take k (by omega)).snoc hev).append ((hr.later hL).drop k (by omega))
    rw [List.append_assoc (es.take k)] at this
    exact this
  have hφ : ∀ x : SC, x.raw = x → ((x.mp g).rz F α).raw = x := fun x hx => by rw [mp_raw hx, rz_raw hx]
  have hmap : ((cs.take (k * 4) ++ ev4 t) ++ cs.drop (k * 4)).map (fun x => ((x.mp g).rz F α).raw) = (cs.take (k * 4) ++ flat (evS ⟨6#8, t, [1#64], []⟩ ⟨some ((α nb).add (0 + 0)), 1, 1, none, 0, 0⟩)) ++ cs.drop (k * 4) := by
    rw [List.map_append, List.map_append, map_keep hφ (fun x hx => hr.raw x (List.mem_of_mem_take hx)), map_keep hφ (fun x hx => hr.raw x (List.mem_of_mem_drop hx))]
    congr 2
    show [_, _, _, _] = _
    simp only [SC.mp, SC.rz, hg, hF]
    rfl
  have hLl : ((cs.take (k * 4) ++ ev4 t) ++ cs.drop (k * 4)).length = (n + 1) * 4 := by rw [List.length_append, List.length_append, List.length_take, List.length_drop]; show _ + 4 + _ = _; omega
  rw [← hmap] at hR
  refine hR.im (fun _ => h2 (fun e => ?_)) (fun j hj => ?_) (by rw [List.length_append, List.length_take, List.length_cons, List.length_drop]; omega) hc (by omega)
  · have := congrArg List.length e
    simp [mpL, Seg.mp, flat, sc4] at this
    omega
  · rw [List.length_map, hLl] at hj
    have hjn : j < scale c (3 + 1) := by rw [sc4]; omega
    rw [nthC_map (by omega)]
    rw [List.getElem?_map, List.getElem?_map]
    simp only [mpL, Seg.mp, flat, List.append_nil, List.getElem?_map, List.getElem?_range hjn, Option.map_some]
theorem fn_bencodeE {W : World} {ms : List Nat} {a : Option Addr} {n c : Nat} {es : List Ev} (h : EvsAt W ms a n c es) (hn : n ≤ 2048) {err : Int} (he : (encM es).2 = err) : FnR Try.prog tds 12 1 [[.past W ms]] [.c (.slc a n c)] (fun _ => True)
    (fun y hs => ∃ t : Sl, t.Ok ∧ y = .tup [.c (svC 1 t), .c (.int .i64 err)] ∧ hs = [[.past W ms], svB t]) :=
  (fn_bencode h).mono fun y hs ⟨_, hr⟩ => by
    obtain ⟨t, e, hM, ht, h1, h2⟩ := hr hn
    rw [hM] at he
    exact ⟨t, ht, by rw [← he]; exact h1, h2⟩
theorem entW_of {C : Cx} {X : Type} {s : St} {inv : X → St} {p : X → Prop} (h : ∃ x q, Ent C q s (inv x) ∧ p x) : EntW C s inv p := fun r a w ok => by
  obtain ⟨x, q, h1, h2⟩ := h
  exact ⟨x, rn q r, h1.okN ok, h2⟩
set_option maxRecDepth 20000 in
set_option maxHeartbeats 64000000 in
theorem fn_blogErrors {W : World} {ms : List Nat} {a : Option Addr} {n c : Nat} {es : List Ev} (h : EvsAt W ms a n c es) {aK : Option Addr} {nK cK : Nat} {ks : Bs} (hK : BsAt W ms aK nK cK ks) {x : EvC} {e : Ev} (hx : EvAt W ms x e) (at_ : BitVec 8) :
    FnR Try.prog tds 3 1 [[.past W ms]] [.c (.slc a n c), .c (.slc aK nK cK), .agg (evS e x), .c (.w8 at_)] (fun _ => True)
    (fun y hs => y = .a (.c (.bool true))) := by
  have hlen := h.len
  refine fn_of_body tds_ok follows_ Try.func3 rfl (t := .a (.c (.slc a n c)) :: .a (.c (.slc aK nK cK)) :: .a (.agg (evS e x)) :: .a (.c (.w8 at_)) :: anys (Try.f3.ntmps - 4)) rfl (fun w r0 hr _ => ?_)
  obtain ⟨x0, rfl⟩ := List.length_eq_one_iff.1 hr
  (repeat first | (refine And.intro ?_ ?_; first | exact rfl | ((exact fun h => absurd h (by first | decide)); intro yy; clear yy) | (rotate_left; (exact fun h => absurd h (by first | decide)); intro yy; clear yy) | decide | omega) | (with_reducible refine frc_bytesL (by first | omega | decide) ?_) | (with_reducible refine frc_bytesM (by first | omega | decide) ?_))
  refine call_same (fn_bawake (W := W) (ms := ms)) [0] rfl (by (repeat first | exact trivial | refine ent1 ?_)) (by (repeat first | exact trivial | refine ent1 ?_)) (fun _ _ => trivial) ?_
  rintro y hs' ⟨rfl, rfl⟩
  (repeat first | (refine And.intro ?_ ?_; first | exact rfl | ((exact fun h => absurd h (by first | decide)); intro yy; clear yy) | (rotate_left; (exact fun h => absurd h (by first | decide)); intro yy; clear yy) | decide | omega) | (with_reducible refine frc_bytesL (by first | omega | decide) ?_) | (with_reducible refine frc_bytesM (by first | omega | decide) ?_))
  refine call_same (fn_light h) [0] rfl (by (repeat first | exact trivial | refine ent1 ?_)) (by (repeat first | exact trivial | refine ent1 ?_)) (fun _ _ => trivial) ?_
  rintro y hs' ⟨rfl, rfl⟩
  cases hL : lightE es with
  | false =>
    (repeat first | (refine And.intro ?_ ?_; first | exact rfl | ((exact fun h => absurd h (by first | decide)); intro yy; clear yy) | (rotate_left; (exact fun h => absurd h (by first | decide)); intro yy; clear yy) | decide | omega) | (with_reducible refine frc_bytesL (by first | omega | decide) ?_) | (with_reducible refine frc_bytesM (by first | omega | decide) ?_))
    refine ⟨.a (.c (.bool true)), [[.past W ms]], ⟨[0], ⟨rfl, rfl, rfl⟩, ?_⟩, rfl⟩
    (repeat first | exact trivial | refine ent1 ?_)
  | true =>
  have hl2 : (∀ e ∈ es, e.N.length ≤ 30 ∧ e.D.length ≤ 100) ∧ es.length ≤ 60 := by
    unfold lightE at hL
    rw [Bool.and_eq_true] at hL
    exact ⟨of_decide_eq_true hL.1, of_decide_eq_true hL.2⟩
  (repeat first | (refine And.intro ?_ ?_; first | exact rfl | ((exact fun h => absurd h (by first | decide)); intro yy; clear yy) | (rotate_left; (exact fun h => absurd h (by first | decide)); intro yy; clear yy) | decide | omega) | (with_reducible refine frc_bytesL (by first | omega | decide) ?_) | (with_reducible refine frc_bytesM (by first | omega | decide) ?_))
  refine And.intro (show 0 + 4 ≤ 4 by decide) ?_
  (repeat first | (refine And.intro ?_ ?_; first | exact rfl | ((exact fun h => absurd h (by first | decide)); intro yy; clear yy) | (rotate_left; (exact fun h => absurd h (by first | decide)); intro yy; clear yy) | decide | omega) | (with_reducible refine frc_bytesL (by first | omega | decide) ?_) | (with_reducible refine frc_bytesM (by first | omega | decide) ?_))
  have hR1 : RowAt W ms ([] ++ flat (evS e x)) [e] := RowAt.nil.snoc hx
  refine call_lend [2] 0 [] rfl rfl (by (repeat first | exact trivial | refine ent1 ?_)) NoP.nil (fun _ _ => trivial) (fun W' ms' α hL' hI => ⟨[.c (.slc (some ((α 2).add (0 + 0))) 1 1)], ?_, (fn_light (hR1.frzF (F := fun j => memB j [2]) (n := 1) (c := 1) hL' (by exact fun j hj => updN_new hj) (hI 2 rfl) rfl (by decide) (by decide))).mono (Res' := fun y hs => y = .a (.c (.bool (lightE [e]))) ∧ hs.drop 1 = []) (fun x hs hr => ?_)⟩) (fun x hs hr => ?_) ?_
  · (repeat first | exact trivial | refine ent1 ?_)
  · obtain ⟨rfl, rfl⟩ := hr
    exact ⟨rfl, rfl⟩
  · rw [hr.2]; exact NoP.nil
  rintro y hs' ⟨rfl, hdrop⟩
  rw [hdrop]
  cases hL2 : lightE [e] with
  | false =>
    (repeat first | (refine And.intro ?_ ?_; first | exact rfl | ((exact fun h => absurd h (by first | decide)); intro yy; clear yy) | (rotate_left; (exact fun h => absurd h (by first | decide)); intro yy; clear yy) | decide | omega) | (with_reducible refine frc_bytesL (by first | omega | decide) ?_) | (with_reducible refine frc_bytesM (by first | omega | decide) ?_))
    refine ⟨.a (.c (.bool true)), [[.past W ms]], ⟨[0], ⟨rfl, rfl, rfl⟩, ?_⟩, rfl⟩
    (repeat first | exact trivial | refine ent1 ?_)
  | true =>
  (repeat first | (refine And.intro ?_ ?_; first | exact rfl | ((exact fun h => absurd h (by first | decide)); intro yy; clear yy) | (rotate_left; (exact fun h => absurd h (by first | decide)); intro yy; clear yy) | decide | omega) | (with_reducible refine frc_bytesL (by first | omega | decide) ?_) | (with_reducible refine frc_bytesM (by first | omega | decide) ?_))
  refine call_past (fn_erowG h hK hl2.1 (by omega)) 0 [] rfl rfl (by (repeat first | exact trivial | refine ent1 ?_)) (by (repeat first | exact trivial | refine ent1 ?_)) (fun _ _ => trivial) (fun x hs hr => ?_) ?_
  · obtain ⟨a', c', W', ms', h1, _, _, _, rfl⟩ := hr
    exact ⟨W', ms', rfl, h1⟩
  rintro y hs' ⟨aR, cR, W1, ms1, hL1, hrow, hrz, rfl, rfl⟩
  obtain ⟨row, hrw⟩ : ∃ row, rowE ks es 0 0#64 = row := ⟨_, rfl⟩
  have hg0 := row_good ks es 0 0#64 (by decide)
  rw [hrw] at hrow hg0
  have hrl : row.length = n := hrow.len
  have hx1 := hx.later hL1
  have hn60 : n ≤ 60 := by omega
  (repeat first | (refine And.intro ?_ ?_; first | exact rfl | ((exact fun h => absurd h (by first | decide)); intro yy; clear yy) | (rotate_left; (exact fun h => absurd h (by first | decide)); intro yy; clear yy) | decide | omega) | (with_reducible refine frc_bytesL (by first | omega | decide) ?_) | (with_reducible refine frc_bytesM (by first | omega | decide) ?_))
  rw [show ((at_.toNat : Nat) : Int) % ((n : Nat) + 1 : Int) = ((at_.toNat % (n + 1) : Nat) : Int) by rw [Int.natCast_emod, Int.natCast_add]; rfl]
  obtain ⟨k, hk⟩ : ∃ k, at_.toNat % (n + 1) = k := ⟨_, rfl⟩
  have hkn : k ≤ n := by have := Nat.mod_lt at_.toNat (show n + 1 > 0 by omega); rw [← hk]; omega
  rw [hk]
  (repeat first | (refine And.intro ?_ ?_; first | exact rfl | ((exact fun h => absurd h (by first | decide)); intro yy; clear yy) | (rotate_left; (exact fun h => absurd h (by first | decide)); intro yy; clear yy) | decide | omega) | (with_reducible refine frc_bytesL (by first | omega | decide) ?_) | (with_reducible refine frc_bytesM (by first | omega | decide) ?_))
  refine call_same (fn_echeck hx1) [0] rfl (by (repeat first | exact trivial | refine ent1 ?_)) (by (repeat first | exact trivial | refine ent1 ?_)) (fun _ _ => trivial) ?_
  rintro y hs' ⟨rfl, rfl⟩
  by_cases hce : checkM e = 0
  · rw [hce]
    have e9 : decide ((0 : Int) ≠ 0) = false := by decide
    (repeat first | (refine And.intro ?_ ?_; first | exact rfl | ((exact fun h => absurd h (by first | decide | (rw [e9]; decide))); intro yy; clear yy) | (rotate_left; (exact fun h => absurd h (by first | decide | (rw [e9]; decide))); intro yy; clear yy) | decide | omega) | (with_reducible refine frc_bytesL (by first | omega | decide) ?_) | (with_reducible refine frc_bytesM (by first | omega | decide) ?_))
    by_cases h2 : k < n
    · have k2 : decide ((k : Int) < (n : Int)) = true := decide_eq_true (by omega)
      cases haR : aR with
      | none => have := hrow.nil haR; have := hrow.le; omega
      | some A =>
      subst haR
      obtain ⟨z, hz⟩ : ∃ z, row[k]? = some z := ⟨_, List.getElem?_eq_getElem (by omega)⟩
      obtain ⟨zx, him, hza⟩ := hrow.elt A rfl k z hz
      (repeat first | (refine And.intro ?_ ?_; first | exact rfl | ((exact fun h => absurd h (by first | decide | (rw [k2]; decide))); intro yy; clear yy) | (rotate_left; (exact fun h => absurd h (by first | decide | (rw [k2]; decide))); intro yy; clear yy) | decide | omega) | (with_reducible refine frc_bytesL (by first | omega | decide) ?_) | (with_reducible refine frc_bytesM (by first | omega | decide) ?_))
      refine loadR (i := 0) rfl him (j := 1) (y := .w64 z.t) rfl ?_
      (repeat first | (refine And.intro ?_ ?_; first | exact rfl | ((exact fun h => absurd h (by first | decide)); intro yy; clear yy) | (rotate_left; (exact fun h => absurd h (by first | decide)); intro yy; clear yy) | decide | omega) | (with_reducible refine frc_bytesL (by first | omega | decide) ?_) | (with_reducible refine frc_bytesM (by first | omega | decide) ?_))
      refine call_past (fn_with hrow hrz (by omega) (show EvAt W1 ms1 ⟨none, 0, 0, none, 0, 0⟩ ⟨19#8, z.t, [], []⟩ from ⟨SlAt.nul, SlAt.nul⟩) k hkn) 0 [3, 4] rfl rfl (by (repeat first | exact trivial | refine ent1 ?_)) (by (repeat first | exact trivial | refine ent1 ?_)) (fun _ _ => trivial) (fun x hs hr => ?_) ?_
      · obtain ⟨a', c', W', ms', h1, _, _, rfl⟩ := hr
        exact ⟨W', ms', rfl, h1⟩
      rintro y hs' ⟨aC, cC, WC, msC, hLC, hEC, rfl, rfl⟩
      (repeat first | (refine And.intro ?_ ?_; first | exact rfl | ((exact fun h => absurd h (by first | decide)); intro yy; clear yy) | (rotate_left; (exact fun h => absurd h (by first | decide)); intro yy; clear yy) | decide | omega) | (with_reducible refine frc_bytesL (by first | omega | decide) ?_) | (with_reducible refine frc_bytesM (by first | omega | decide) ?_))
      refine call_same (fn_bencodeE hEC (by omega) (err := 10) (by rw [enc_cut (by rw [List.length_take, List.length_drop]; omega) (hg0.1.take k) (fun z hz => hg0.2 z (List.mem_of_mem_take hz)) (hg0.1.hi hz) (lastT_le hg0.1 hz) (by rw [← List.length_pos_iff, List.length_drop]; omega)])) [0] rfl (by (repeat first | exact trivial | refine ent1 ?_)) (by (repeat first | exact trivial | refine ent1 ?_)) (fun _ _ => trivial) ?_
      rintro y hs' ⟨tC, htC, rfl, rfl⟩
      have e10 : decide ((10 : Int) ≠ 10) = false := by decide
      (repeat first | (refine And.intro ?_ ?_; first | exact rfl | ((exact fun h => absurd h (by first | decide | (rw [e10]; decide))); intro yy; clear yy) | (rotate_left; (exact fun h => absurd h (by first | decide | (rw [e10]; decide))); intro yy; clear yy) | decide | omega) | (with_reducible refine frc_bytesL (by first | omega | decide) ?_) | (with_reducible refine frc_bytesM (by first | omega | decide) ?_))
      have hrowC := hrow.later hLC
      rcases Nat.eq_zero_or_pos k with hk0 | hk0
      · have k3 : decide ((0 : Int) < (k : Int)) = false := decide_eq_false (by omega)
        (repeat first | (refine And.intro ?_ ?_; first | exact rfl | ((exact fun h => absurd h (by first | decide | (rw [k3]; decide))); intro yy; clear yy) | (rotate_left; (exact fun h => absurd h (by first | decide | (rw [k3]; decide))); intro yy; clear yy) | decide | omega) | (with_reducible refine frc_bytesL (by first | omega | decide) ?_) | (with_reducible refine frc_bytesM (by first | omega | decide) ?_))
        obtain ⟨N, hN⟩ : ∃ N, 2044 + (at_ % 10#8).toNat = N := ⟨_, rfl⟩
        have hN2 : N < 2054 := by have : (at_ % 10#8).toNat < 10 := (by rw [BitVec.toNat_umod]; exact Nat.mod_lt _ (by decide)); omega
        (repeat first | (refine And.intro ?_ ?_; first | exact rfl | ((exact fun h => absurd h (by first | decide)); intro yy; clear yy) | (rotate_left; (exact fun h => absurd h (by first | decide)); intro yy; clear yy) | decide | omega) | (with_reducible refine frc_bytesL (by first | omega | decide) ?_) | (with_reducible refine frc_bytesM (by first | omega | decide) ?_))
        refine And.intro (show (0 : Int) ≤ 2044 + ((at_ % 10#8).toNat : Int) ∧ 2044 + ((at_ % 10#8).toNat : Int) ≤ 2044 + ((at_ % 10#8).toNat : Int) ∧ (2044 + ((at_ % 10#8).toNat : Int)) * 64 ≤ 140737488355328 ∧ 2044 + ((at_ % 10#8).toNat : Int) ≤ 9223372036854775807 by omega) ?_
        refine frcN_of (show (2044 + ((at_ % 10#8).toNat : Int)).toNat = N by omega) ?_
        refine frcN_of (show (2044 + ((at_ % 10#8).toNat : Int)).toNat = N by omega) ?_
        refine .inr ⟨0, World × List Nat × List SC × Nat, fun x => ⟨[.any, .any, .any, .any, .any, .any, .any, .any, .any, .any, .any, .any, .any, .any, .any, .any, .any, .any, .any, .a (.c (.sl 1 0 0 N N)), .any, .any, .any, .any, .any, .any, .any, .any, .any, .any, .any, .any, .any, .any, .any, .any, .any, .any, .any, .any, .any, .any, .any, .any, .any, .any, .any, .any, .any, .any, .any, .any, .any, .any, .any, .any, .any, .any, .any, .any, .any, .any, .any, .any, .any, .any, .any, .any, .any, .any, .any, .any, .any, .any, .any, .any, .any, .any, .any, .any, .any, .any, .any, .any, .any, .any, .any, .any, .any, .any, .any, .any, .any, .any, .any, .any, .any, .any, .any, .any, .any, .any, .any, .any, .any, .any, .any, .any, .any, .any, .a (.c (.int .i64 ((N : Int)))), .a (.c (.int .i64 ((x.2.2.2 : Nat)))), .any, .any, .any, .any, .any, .any, .any, .any, .any, .any, .any, .any, .any, .any, .any, .any, .any, .any, .any, .any, .any, .any, .any, .any, .any, .any, .any, .any, .any, .any, .any, .any, .any, .any], [[.past x.1 x.2.1], [.row (N * 4) (nthC x.2.2.1)]]⟩, fun x => RowAt x.1 x.2.1 x.2.2.1 (manyE x.2.2.2) ∧ x.2.2.2 ≤ N, fun x => N - x.2.2.2, entW_of ⟨(WC, msC, [], 0), [0, 6], ⟨⟨rfl, rfl, rfl⟩, ?_⟩, RowAt.nil, Nat.zero_le _⟩, fun x => ?_⟩
        · (repeat first | exact trivial | refine ent1 ?_)
        obtain ⟨WL, msL, csL, i⟩ := x
        rintro ⟨hRL, hiN⟩
        dsimp only at hRL hiN ⊢
        by_cases hi : i < N
        · have ki : decide ((i : Int) < (N : Int)) = true := decide_eq_true (by omega)
          (repeat first | (refine And.intro ?_ ?_; first | exact rfl | ((exact fun h => absurd h (by first | decide | (rw [ki]; decide))); intro yy; clear yy) | (rotate_left; (exact fun h => absurd h (by first | decide | (rw [ki]; decide))); intro yy; clear yy) | decide | omega) | (with_reducible refine frc_bytesL (by first | omega | decide) ?_) | (with_reducible refine frc_bytesM (by first | omega | decide) ?_))
          refine And.intro (show ((i : Int).toNat * 4 + 0) + 4 ≤ N * 4 by omega) ?_
          (repeat first | (refine And.intro ?_ ?_; first | exact rfl | ((exact fun h => absurd h (by first | decide | (rw [ki]; decide))); intro yy; clear yy) | (rotate_left; (exact fun h => absurd h (by first | decide | (rw [ki]; decide))); intro yy; clear yy) | decide | omega) | (with_reducible refine frc_bytesL (by first | omega | decide) ?_) | (with_reducible refine frc_bytesM (by first | omega | decide) ?_))
          refine entW_frz [0, 1] rfl Nat.zero_lt_one cx0_m rfl (fun W' ms' α hL hI => ?_)
          have h2 : ImAt W' ms' (α 2) [.w64 (BitVec.ofInt 64 (i : Int))] := hI 2 rfl (by show flat [Seg.row 1 _] ≠ []; simp [flat])
          have hev : EvAt W' ms' ⟨some ((α 2).add (0 + 0)), 1, 1, none, 0, 0⟩ ⟨6#8, 0#64, [BitVec.ofNat 64 i], []⟩ :=
            ⟨⟨rfl, Nat.le_refl _, (show (1 : Nat) ≤ 9223372036854775807 by decide), (fun e => by cases e), fun x e _ => by injection e with e; subst e; rw [← BitVec.ofInt_natCast]; exact h2.part (0 + 0) (fun j x hx => by simpa using hx)⟩, SlAt.nul⟩
          have hRn : RowAt W' ms' (csL ++ flat (evS ⟨6#8, 0#64, [BitVec.ofNat 64 i], []⟩ ⟨some ((α 2).add (0 + 0)), 1, 1, none, 0, 0⟩)) (manyE (i + 1)) := by
            rw [manyE_succ]; exact (hRL.later hL).snoc hev
          refine ⟨(W', ms', csL ++ flat (evS ⟨6#8, 0#64, [BitVec.ofNat 64 i], []⟩ ⟨some ((α 2).add (0 + 0)), 1, 1, none, 0, 0⟩), i + 1), [.any, .any, .any, .any, .any, .any, .any, .any, .any, .any, .any, .any, .any, .any, .any, .any, .any, .any, .any, .a (.c (.sl 1 0 0 N N)), .any, .any, .any, .any, .any, .any, .any, .any, .any, .any, .any, .any, .any, .any, .any, .any, .any, .any, .any, .any, .any, .any, .any, .any, .any, .any, .any, .any, .any, .any, .any, .any, .any, .any, .any, .any, .any, .any, .any, .any, .any, .any, .any, .any, .any, .any, .any, .any, .any, .any, .any, .any, .any, .any, .any, .any, .any, .any, .any, .any, .any, .any, .any, .any, .any, .any, .any, .any, .any, .any, .any, .any, .any, .any, .any, .any, .any, .any, .any, .any, .any, .any, .any, .any, .any, .any, .any, .any, .any, .any, .a (.c (.int .i64 ((N : Int)))), .a (.c (.int .i64 (((i + 1 : Nat) : Nat)))), .any, .any, .any, .any, .any, .any, .any, .any, .any, .any, .any, .any, .any, .any, .any, .any, .any, .any, .any, .any, .any, .any, .any, .any, .any, .any, .any, .any, .any, .any, .any, .any, .any, .any], [[.row (N * 4) (nthC (csL ++ flat (evS ⟨6#8, 0#64, [BitVec.ofNat 64 i], []⟩ ⟨some ((α 2).add (0 + 0)), 1, 1, none, 0, 0⟩)))]], ⟨⟨rfl, rfl, rfl⟩, ?_⟩, rfl, ⟨hRn, (show i + 1 ≤ N by omega)⟩, (show N - (i + 1) < N - i by omega)⟩
          (repeat first | exact trivial | refine ent1 ?_)
          refine ⟨fun j _ => upd_rz (by rw [hRL.len, manyE_len]) hRL.raw rfl (show (i : Int).toNat * 4 + 0 = i * 4 by omega) (fun j hj => ?_) j, ?_⟩
          · have : j = 0 ∨ j = 1 ∨ j = 2 ∨ j = 3 := by omega
            rcases this with rfl | rfl | rfl | rfl
            · (repeat first | exact trivial | refine ent1 ?_)
            · (repeat first | exact trivial | refine ent1 ?_)
            · exact ⟨rfl, trivial⟩
            · (repeat first | exact trivial | refine ent1 ?_)
          (repeat first | exact trivial | refine ent1 ?_)
        · have ki : decide ((i : Int) < (N : Int)) = false := decide_eq_false (by omega)
          (repeat first | (refine And.intro ?_ ?_; first | exact rfl | ((exact fun h => absurd h (by first | decide | (rw [ki]; decide))); intro yy; clear yy) | (rotate_left; (exact fun h => absurd h (by first | decide | (rw [ki]; decide))); intro yy; clear yy) | decide | omega) | (with_reducible refine frc_bytesL (by first | omega | decide) ?_) | (with_reducible refine frc_bytesM (by first | omega | decide) ?_))
          obtain rfl : i = N := by omega
          have hmc : csL.length = i * 4 := by rw [hRL.len, manyE_len]
          have hEv : ∀ (W' : World) (ms' : List Nat) (α : Nat → Addr), Later WL msL W' ms' → (flat [.row (i * 4) (nthC csL)] ≠ [] → ImAt W' ms' (α 1) (((flat [.row (i * 4) (nthC csL)]).map (SC.rz (fun j => memB j [1]) α)).map SC.raw)) → EvsAt W' ms' (some ((α 1).add (0 + 0))) i i (manyE i) := fun W' ms' α hL' hI => by
            refine (hRL.later hL').im (fun h0 => hI (fun e => ?_)) (fun j hj => ?_) (manyE_len i) (Nat.le_refl _) (by omega)
            · have := congrArg List.length e
              simp [flat] at this
              omega
            · rw [List.getElem?_map, List.getElem?_map]
              simp only [flat, List.append_nil, List.getElem?_map, List.getElem?_range (show j < i * 4 by omega), Option.map_some]
              rw [rz_raw (hRL.raw _ (nthC_mem hj))]
          by_cases hNN : i ≤ 2048
          · have kN : decide ((i : Int) ≤ 2048) = true := decide_eq_true (by omega)
            refine call_lend [1] 0 [] rfl rfl (by (repeat first | exact trivial | refine ent1 ?_)) NoP.nil (fun _ _ => trivial) (fun W' ms' α hL' hI => ⟨[.c (.slc (some ((α 1).add (0 + 0))) i i)], ?_, (fn_bencodeE (hEv W' ms' α hL' (hI 1 rfl)) hNN (err := 0) (by rw [enc_of (by rw [manyE_len]; exact hNN) (manyE_good (by omega))])).mono (Res' := fun y hs => ∃ t : Sl, t.Ok ∧ y = .tup [.c (svC 1 t), .c (.int .i64 0)] ∧ hs.drop 1 = [svB t]) (fun x hs hr => ?_)⟩) (fun x hs hr => ?_) ?_
            · (repeat first | exact trivial | refine ent1 ?_)
            · obtain ⟨t, h1, h2, rfl⟩ := hr
              exact ⟨t, h1, h2, rfl⟩
            · obtain ⟨t, _, _, h1⟩ := hr
              rw [h1]
              exact NoP.cons (fun W ms => bts_ne _ _ _ _ _ W ms) NoP.nil
            rintro y hs' ⟨tM, htM, rfl, hdropM⟩
            rw [hdropM]
            (repeat first | (refine And.intro ?_ ?_; first | exact rfl | ((exact fun h => absurd h (by first | decide | (rw [kN]; decide))); intro yy; clear yy) | (rotate_left; (exact fun h => absurd h (by first | decide | (rw [kN]; decide))); intro yy; clear yy) | decide | omega) | (with_reducible refine frc_bytesL (by first | omega | decide) ?_) | (with_reducible refine frc_bytesM (by first | omega | decide) ?_))
            refine ⟨.a (.c (.bool true)), [[.past WL msL]], ⟨[0], ⟨rfl, rfl, rfl⟩, ?_⟩, rfl⟩
            (repeat first | exact trivial | refine ent1 ?_)
            done
          · have kN : decide ((i : Int) ≤ 2048) = false := decide_eq_false (by omega)
            refine call_lend [1] 0 [] rfl rfl (by (repeat first | exact trivial | refine ent1 ?_)) NoP.nil (fun _ _ => trivial) (fun W' ms' α hL' hI => ⟨[.c (.slc (some ((α 1).add (0 + 0))) i i)], ?_, (fn_bencode (hEv W' ms' α hL' (hI 1 rfl))).mono (Res' := fun y hs => y = .tup [.c (.slc none 0 0), .c (.int .i64 7)] ∧ hs.drop 1 = []) (fun x hs hr => ?_)⟩) (fun x hs hr => ?_) ?_
            · (repeat first | exact trivial | refine ent1 ?_)
            · obtain ⟨h1, h2⟩ := hr.1 (by omega)
              exact ⟨h1, by rw [h2]; rfl⟩
            · rw [hr.2]; exact NoP.nil
            rintro y hs' ⟨rfl, hdropM⟩
            rw [hdropM]
            (repeat first | (refine And.intro ?_ ?_; first | exact rfl | ((exact fun h => absurd h (by first | decide | (rw [kN]; decide))); intro yy; clear yy) | (rotate_left; (exact fun h => absurd h (by first | decide | (rw [kN]; decide))); intro yy; clear yy) | decide | omega) | (with_reducible refine frc_bytesL (by first | omega | decide) ?_) | (with_reducible refine frc_bytesM (by first | omega | decide) ?_))
            refine ⟨.a (.c (.bool true)), [[.past WL msL]], ⟨[0], ⟨rfl, rfl, rfl⟩, ?_⟩, rfl⟩
            (repeat first | exact trivial | refine ent1 ?_)
            done
      · have k3 : decide ((0 : Int) < (k : Int)) = true := decide_eq_true (by omega)
        obtain ⟨z, hz⟩ : ∃ z, row[k - 1]? = some z := ⟨_, List.getElem?_eq_getElem (by omega)⟩
        obtain ⟨zx, him, hza⟩ := hrowC.elt A rfl (k - 1) z hz
        have him : ImAt WC msC (A.add (((k : Int) - 1).toNat * 4)) (flat (evS z zx)) := by rw [show ((k : Int) - 1).toNat = k - 1 by omega]; exact him
        (repeat first | (refine And.intro ?_ ?_; first | exact rfl | ((exact fun h => absurd h (by first | decide | (rw [k3]; decide))); intro yy; clear yy) | (rotate_left; (exact fun h => absurd h (by first | decide | (rw [k3]; decide))); intro yy; clear yy) | decide | omega) | (with_reducible refine frc_bytesL (by first | omega | decide) ?_) | (with_reducible refine frc_bytesM (by first | omega | decide) ?_))
        refine loadR (i := 0) rfl him (j := 1) (y := .w64 z.t) rfl ?_
        by_cases h4 : 0#64 < z.t
        · have k4 : decide (0#64 < z.t) = true := decide_eq_true h4
          (repeat first | (refine And.intro ?_ ?_; first | exact rfl | ((exact fun h => absurd h (by first | decide | (rw [k3]; decide) | (rw [k4]; decide))); intro yy; clear yy) | (rotate_left; (exact fun h => absurd h (by first | decide | (rw [k3]; decide) | (rw [k4]; decide))); intro yy; clear yy) | decide | omega) | (with_reducible refine frc_bytesL (by first | omega | decide) ?_) | (with_reducible refine frc_bytesM (by first | omega | decide) ?_))
          refine loadR (i := 0) rfl him (j := 1) (y := .w64 z.t) rfl ?_
          (repeat first | (refine And.intro ?_ ?_; first | exact rfl | ((exact fun h => absurd h (by first | decide)); intro yy; clear yy) | (rotate_left; (exact fun h => absurd h (by first | decide)); intro yy; clear yy) | decide | omega) | (with_reducible refine frc_bytesL (by first | omega | decide) ?_) | (with_reducible refine frc_bytesM (by first | omega | decide) ?_))
          obtain ⟨csN, hrN, hiN⟩ := hrowC.row (by omega)
          refine call_same (fn_withN hrN hiN hrowC.len hrowC.le (by omega) (by omega) (z.t - 1#64) k hkn) [0, 3, 4, 6] rfl (by (repeat first | exact trivial | refine ent1 ?_)) (by (repeat first | exact trivial | refine ent1 ?_); refine ⟨fun j _ => eqC_cells (L := [.w64 1#64]) (fun _ _ => rfl) (fun x hx => by simp at hx; subst hx; (repeat first | exact trivial | refine ent1 ?_)) j, ?_⟩; (repeat first | exact trivial | refine ent1 ?_)) (fun _ _ => trivial) ?_
          rintro y hs' ⟨cN, hcN, rfl, rfl⟩
          (repeat first | (refine And.intro ?_ ?_; first | exact rfl | ((exact fun h => absurd h (by first | decide)); intro yy; clear yy) | (rotate_left; (exact fun h => absurd h (by first | decide)); intro yy; clear yy) | decide | omega) | (with_reducible refine frc_bytesL (by first | omega | decide) ?_) | (with_reducible refine frc_bytesM (by first | omega | decide) ?_))
          have henc := enc_time (es := row.take k) (fs := row.drop k) (t := z.t) (by rw [List.length_take, List.length_drop]; omega) (hg0.1.take k) (fun z hz => hg0.2 z (List.mem_of_mem_take hz)) (hg0.1.hi hz) (by rw [BitVec.lt_def] at h4; simpa using h4) (by have := lastT_eq (last := 0#64) hz; rwa [show k - 1 + 1 = k by omega] at this)
          refine call_lend [6, 7] 0 [] rfl rfl (by (repeat first | exact trivial | refine ent1 ?_)) NoP.nil (fun _ _ => trivial) (fun W' ms' α hL' hI => ⟨[.c (.slc (some ((α 7).add (0 + 0))) (n + 1) cN)], ?_, (fn_bencodeE (lendN (F := fun j => memB j [6, 7]) (g := bk 7 [0, 3, 4, 6]) (nb := 6) (nr := 7) hrN hL' rfl rfl hkn hrowC.len hcN (by omega) (hI 6 rfl (by show flat [Seg.row 1 _] ≠ []; simp [flat])) (hI 7 rfl)) (by omega) (err := 21) (by rw [henc])).mono (Res' := fun y hs => ∃ t : Sl, t.Ok ∧ y = .tup [.c (svC 1 t), .c (.int .i64 21)] ∧ hs.drop 1 = [svB t]) (fun x hs hr => ?_)⟩) (fun x hs hr => ?_) ?_
          · (repeat first | exact trivial | refine ent1 ?_)
          · obtain ⟨t, h1, h2, rfl⟩ := hr
            exact ⟨t, h1, h2, rfl⟩
          · obtain ⟨t, _, _, h1⟩ := hr
            rw [h1]
            exact NoP.cons (fun W ms => bts_ne _ _ _ _ _ W ms) NoP.nil
          rintro y hs' ⟨tN, htN, rfl, hdropN⟩
          rw [hdropN]
          have e21 : decide ((21 : Int) ≠ 21) = false := by decide
          (repeat first | (refine And.intro ?_ ?_; first | exact rfl | ((exact fun h => absurd h (by first | decide | (rw [e21]; decide))); intro yy; clear yy) | (rotate_left; (exact fun h => absurd h (by first | decide | (rw [e21]; decide))); intro yy; clear yy) | decide | omega) | (with_reducible refine frc_bytesL (by first | omega | decide) ?_) | (with_reducible refine frc_bytesM (by first | omega | decide) ?_))
          obtain ⟨N, hN⟩ : ∃ N, 2044 + (at_ % 10#8).toNat = N := ⟨_, rfl⟩
          have hN2 : N < 2054 := by have : (at_ % 10#8).toNat < 10 := (by rw [BitVec.toNat_umod]; exact Nat.mod_lt _ (by decide)); omega
          (repeat first | (refine And.intro ?_ ?_; first | exact rfl | ((exact fun h => absurd h (by first | decide)); intro yy; clear yy) | (rotate_left; (exact fun h => absurd h (by first | decide)); intro yy; clear yy) | decide | omega) | (with_reducible refine frc_bytesL (by first | omega | decide) ?_) | (with_reducible refine frc_bytesM (by first | omega | decide) ?_))
          refine And.intro (show (0 : Int) ≤ 2044 + ((at_ % 10#8).toNat : Int) ∧ 2044 + ((at_ % 10#8).toNat : Int) ≤ 2044 + ((at_ % 10#8).toNat : Int) ∧ (2044 + ((at_ % 10#8).toNat : Int)) * 64 ≤ 140737488355328 ∧ 2044 + ((at_ % 10#8).toNat : Int) ≤ 9223372036854775807 by omega) ?_
          refine frcN_of (show (2044 + ((at_ % 10#8).toNat : Int)).toNat = N by omega) ?_
          refine frcN_of (show (2044 + ((at_ % 10#8).toNat : Int)).toNat = N by omega) ?_
          refine .inr ⟨0, World × List Nat × List SC × Nat, fun x => ⟨[.any, .any, .any, .any, .any, .any, .any, .any, .any, .any, .any, .any, .any, .any, .any, .any, .any, .any, .any, .a (.c (.sl 1 0 0 N N)), .any, .any, .any, .any, .any, .any, .any, .any, .any, .any, .any, .any, .any, .any, .any, .any, .any, .any, .any, .any, .any, .any, .any, .any, .any, .any, .any, .any, .any, .any, .any, .any, .any, .any, .any, .any, .any, .any, .any, .any, .any, .any, .any, .any, .any, .any, .any, .any, .any, .any, .any, .any, .any, .any, .any, .any, .any, .any, .any, .any, .any, .any, .any, .any, .any, .any, .any, .any, .any, .any, .any, .any, .any, .any, .any, .any, .any, .any, .any, .any, .any, .any, .any, .any, .any, .any, .any, .any, .any, .any, .a (.c (.int .i64 ((N : Int)))), .a (.c (.int .i64 ((x.2.2.2 : Nat)))), .any, .any, .any, .any, .any, .any, .any, .any, .any, .any, .any, .any, .any, .any, .any, .any, .any, .any, .any, .any, .any, .any, .any, .any, .any, .any, .any, .any, .any, .any, .any, .any, .any, .any], [[.past x.1 x.2.1], [.row (N * 4) (nthC x.2.2.1)]]⟩, fun x => RowAt x.1 x.2.1 x.2.2.1 (manyE x.2.2.2) ∧ x.2.2.2 ≤ N, fun x => N - x.2.2.2, entW_of ⟨(WC, msC, [], 0), [0, 9], ⟨⟨rfl, rfl, rfl⟩, ?_⟩, RowAt.nil, Nat.zero_le _⟩, fun x => ?_⟩
          · (repeat first | exact trivial | refine ent1 ?_)
          obtain ⟨WL, msL, csL, i⟩ := x
          rintro ⟨hRL, hiN⟩
          dsimp only at hRL hiN ⊢
          by_cases hi : i < N
          · have ki : decide ((i : Int) < (N : Int)) = true := decide_eq_true (by omega)
            (repeat first | (refine And.intro ?_ ?_; first | exact rfl | ((exact fun h => absurd h (by first | decide | (rw [ki]; decide))); intro yy; clear yy) | (rotate_left; (exact fun h => absurd h (by first | decide | (rw [ki]; decide))); intro yy; clear yy) | decide | omega) | (with_reducible refine frc_bytesL (by first | omega | decide) ?_) | (with_reducible refine frc_bytesM (by first | omega | decide) ?_))
            refine And.intro (show ((i : Int).toNat * 4 + 0) + 4 ≤ N * 4 by omega) ?_
            (repeat first | (refine And.intro ?_ ?_; first | exact rfl | ((exact fun h => absurd h (by first | decide | (rw [ki]; decide))); intro yy; clear yy) | (rotate_left; (exact fun h => absurd h (by first | decide | (rw [ki]; decide))); intro yy; clear yy) | decide | omega) | (with_reducible refine frc_bytesL (by first | omega | decide) ?_) | (with_reducible refine frc_bytesM (by first | omega | decide) ?_))
            refine entW_frz [0, 1] rfl Nat.zero_lt_one cx0_m rfl (fun W' ms' α hL hI => ?_)
            have h2 : ImAt W' ms' (α 2) [.w64 (BitVec.ofInt 64 (i : Int))] := hI 2 rfl (by show flat [Seg.row 1 _] ≠ []; simp [flat])
            have hev : EvAt W' ms' ⟨some ((α 2).add (0 + 0)), 1, 1, none, 0, 0⟩ ⟨6#8, 0#64, [BitVec.ofNat 64 i], []⟩ :=
              ⟨⟨rfl, Nat.le_refl _, (show (1 : Nat) ≤ 9223372036854775807 by decide), (fun e => by cases e), fun x e _ => by injection e with e; subst e; rw [← BitVec.ofInt_natCast]; exact h2.part (0 + 0) (fun j x hx => by simpa using hx)⟩, SlAt.nul⟩
            have hRn : RowAt W' ms' (csL ++ flat (evS ⟨6#8, 0#64, [BitVec.ofNat 64 i], []⟩ ⟨some ((α 2).add (0 + 0)), 1, 1, none, 0, 0⟩)) (manyE (i + 1)) := by
              rw [manyE_succ]; exact (hRL.later hL).snoc hev
            refine ⟨(W', ms', csL ++ flat (evS ⟨6#8, 0#64, [BitVec.ofNat 64 i], []⟩ ⟨some ((α 2).add (0 + 0)), 1, 1, none, 0, 0⟩), i + 1), [.any, .any, .any, .any, .any, .any, .any, .any, .any, .any, .any, .any, .any, .any, .any, .any, .any, .any, .any, .a (.c (.sl 1 0 0 N N)), .any, .any, .any, .any, .any, .any, .any, .any, .any, .any, .any, .any, .any, .any, .any, .any, .any, .any, .any, .any, .any, .any, .any, .any, .any, .any, .any, .any, .any, .any, .any, .any, .any, .any, .any, .any, .any, .any, .any, .any, .any, .any, .any, .any, .any, .any, .any, .any, .any, .any, .any, .any, .any, .any, .any, .any, .any, .any, .any, .any, .any, .any, .any, .any, .any, .any, .any, .any, .any, .any, .any, .any, .any, .any, .any, .any, .any, .any, .any, .any, .any, .any, .any, .any, .any, .any, .any, .any, .any, .any, .a (.c (.int .i64 ((N : Int)))), .a (.c (.int .i64 (((i + 1 : Nat) : Nat)))), .any, .any, .any, .any, .any, .any, .any, .any, .any, .any, .any, .any, .any, .any, .any, .any, .any, .any, .any, .any, .any, .any, .any, .any, .any, .any, .any, .any, .any, .any, .any, .any, .any, .any], [[.row (N * 4) (nthC (csL ++ flat (evS ⟨6#8, 0#64, [BitVec.ofNat 64 i], []⟩ ⟨some ((α 2).add (0 + 0)), 1, 1, none, 0, 0⟩)))]], ⟨⟨rfl, rfl, rfl⟩, ?_⟩, rfl, ⟨hRn, (show i + 1 ≤ N by omega)⟩, (show N - (i + 1) < N - i by omega)⟩
            (repeat first | exact trivial | refine ent1 ?_)
            refine ⟨fun j _ => upd_rz (by rw [hRL.len, manyE_len]) hRL.raw rfl (show (i : Int).toNat * 4 + 0 = i * 4 by omega) (fun j hj => ?_) j, ?_⟩
            · have : j = 0 ∨ j = 1 ∨ j = 2 ∨ j = 3 := by omega
              rcases this with rfl | rfl | rfl | rfl
              · (repeat first | exact trivial | refine ent1 ?_)
              · (repeat first | exact trivial | refine ent1 ?_)
              · exact ⟨rfl, trivial⟩
              · (repeat first | exact trivial | refine ent1 ?_)
            (repeat first | exact trivial | refine ent1 ?_)
          · have ki : decide ((i : Int) < (N : Int)) = false := decide_eq_false (by omega)
            (repeat first | (refine And.intro ?_ ?_; first | exact rfl | ((exact fun h => absurd h (by first | decide | (rw [ki]; decide))); intro yy; clear yy) | (rotate_left; (exact fun h => absurd h (by first | decide | (rw [ki]; decide))); intro yy; clear yy) | decide | omega) | (with_reducible refine frc_bytesL (by first | omega | decide) ?_) | (with_reducible refine frc_bytesM (by first | omega | decide) ?_))
            obtain rfl : i = N := by omega
            have hmc : csL.length = i * 4 := by rw [hRL.len, manyE_len]
            have hEv : ∀ (W' : World) (ms' : List Nat) (α : Nat → Addr), Later WL msL W' ms' → (flat [.row (i * 4) (nthC csL)] ≠ [] → ImAt W' ms' (α 1) (((flat [.row (i * 4) (nthC csL)]).map (SC.rz (fun j => memB j [1]) α)).map SC.raw)) → EvsAt W' ms' (some ((α 1).add (0 + 0))) i i (manyE i) := fun W' ms' α hL' hI => by
              refine (hRL.later hL').im (fun h0 => hI (fun e => ?_)) (fun j hj => ?_) (manyE_len i) (Nat.le_refl _) (by omega)
              · have := congrArg List.length e
                simp [flat] at this
                omega
              · rw [List.getElem?_map, List.getElem?_map]
                simp only [flat, List.append_nil, List.getElem?_map, List.getElem?_range (show j < i * 4 by omega), Option.map_some]
                rw [rz_raw (hRL.raw _ (nthC_mem hj))]
            by_cases hNN : i ≤ 2048
            · have kN : decide ((i : Int) ≤ 2048) = true := decide_eq_true (by omega)
              refine call_lend [1] 0 [] rfl rfl (by (repeat first | exact trivial | refine ent1 ?_)) NoP.nil (fun _ _ => trivial) (fun W' ms' α hL' hI => ⟨[.c (.slc (some ((α 1).add (0 + 0))) i i)], ?_, (fn_bencodeE (hEv W' ms' α hL' (hI 1 rfl)) hNN (err := 0) (by rw [enc_of (by rw [manyE_len]; exact hNN) (manyE_good (by omega))])).mono (Res' := fun y hs => ∃ t : Sl, t.Ok ∧ y = .tup [.c (svC 1 t), .c (.int .i64 0)] ∧ hs.drop 1 = [svB t]) (fun x hs hr => ?_)⟩) (fun x hs hr => ?_) ?_
              · (repeat first | exact trivial | refine ent1 ?_)
              · obtain ⟨t, h1, h2, rfl⟩ := hr
                exact ⟨t, h1, h2, rfl⟩
              · obtain ⟨t, _, _, h1⟩ := hr
                rw [h1]
                exact NoP.cons (fun W ms => bts_ne _ _ _ _ _ W ms) NoP.nil
              rintro y hs' ⟨tM, htM, rfl, hdropM⟩
              rw [hdropM]
              (repeat first | (refine And.intro ?_ ?_; first | exact rfl | ((exact fun h => absurd h (by first | decide | (rw [kN]; decide))); intro yy; clear yy) | (rotate_left; (exact fun h => absurd h (by first | decide | (rw [kN]; decide))); intro yy; clear yy) | decide | omega) | (with_reducible refine frc_bytesL (by first | omega | decide) ?_) | (with_reducible refine frc_bytesM (by first | omega | decide) ?_))
              refine ⟨.a (.c (.bool true)), [[.past WL msL]], ⟨[0], ⟨rfl, rfl, rfl⟩, ?_⟩, rfl⟩
              (repeat first | exact trivial | refine ent1 ?_)
              done
            · have kN : decide ((i : Int) ≤ 2048) = false := decide_eq_false (by omega)
              refine call_lend [1] 0 [] rfl rfl (by (repeat first | exact trivial | refine ent1 ?_)) NoP.nil (fun _ _ => trivial) (fun W' ms' α hL' hI => ⟨[.c (.slc (some ((α 1).add (0 + 0))) i i)], ?_, (fn_bencode (hEv W' ms' α hL' (hI 1 rfl))).mono (Res' := fun y hs => y = .tup [.c (.slc none 0 0), .c (.int .i64 7)] ∧ hs.drop 1 = []) (fun x hs hr => ?_)⟩) (fun x hs hr => ?_) ?_
              · (repeat first | exact trivial | refine ent1 ?_)
              · obtain ⟨h1, h2⟩ := hr.1 (by omega)
                exact ⟨h1, by rw [h2]; rfl⟩
              · rw [hr.2]; exact NoP.nil
              rintro y hs' ⟨rfl, hdropM⟩
              rw [hdropM]
              (repeat first | (refine And.intro ?_ ?_; first | exact rfl | ((exact fun h => absurd h (by first | decide | (rw [kN]; decide))); intro yy; clear yy) | (rotate_left; (exact fun h => absurd h (by first | decide | (rw [kN]; decide))); intro yy; clear yy) | decide | omega) | (with_reducible refine frc_bytesL (by first | omega | decide) ?_) | (with_reducible refine frc_bytesM (by first | omega | decide) ?_))
              refine ⟨.a (.c (.bool true)), [[.past WL msL]], ⟨[0], ⟨rfl, rfl, rfl⟩, ?_⟩, rfl⟩
              (repeat first | exact trivial | refine ent1 ?_)
              done
        · have k4 : decide (0#64 < z.t) = false := decide_eq_false h4
          (repeat first | (refine And.intro ?_ ?_; first | exact rfl | ((exact fun h => absurd h (by first | decide | (rw [k3]; decide) | (rw [k4]; decide))); intro yy; clear yy) | (rotate_left; (exact fun h => absurd h (by first | decide | (rw [k3]; decide) | (rw [k4]; decide))); intro yy; clear yy) | decide | omega) | (with_reducible refine frc_bytesL (by first | omega | decide) ?_) | (with_reducible refine frc_bytesM (by first | omega | decide) ?_))
          obtain ⟨N, hN⟩ : ∃ N, 2044 + (at_ % 10#8).toNat = N := ⟨_, rfl⟩
          have hN2 : N < 2054 := by have : (at_ % 10#8).toNat < 10 := (by rw [BitVec.toNat_umod]; exact Nat.mod_lt _ (by decide)); omega
          (repeat first | (refine And.intro ?_ ?_; first | exact rfl | ((exact fun h => absurd h (by first | decide)); intro yy; clear yy) | (rotate_left; (exact fun h => absurd h (by first | decide)); intro yy; clear yy) | decide | omega) | (with_reducible refine frc_bytesL (by first | omega | decide) ?_) | (with_reducible refine frc_bytesM (by first | omega | decide) ?_))
          refine And.intro (show (0 : Int) ≤ 2044 + ((at_ % 10#8).toNat : Int) ∧ 2044 + ((at_ % 10#8).toNat : Int) ≤ 2044 + ((at_ % 10#8).toNat : Int) ∧ (2044 + ((at_ % 10#8).toNat : Int)) * 64 ≤ 140737488355328 ∧ 2044 + ((at_ % 10#8).toNat : Int) ≤ 9223372036854775807 by omega) ?_
          refine frcN_of (show (2044 + ((at_ % 10#8).toNat : Int)).toNat = N by omega) ?_
          refine frcN_of (show (2044 + ((at_ % 10#8).toNat : Int)).toNat = N by omega) ?_
          refine .inr ⟨0, World × List Nat × List SC × Nat, fun x => ⟨[.any, .any, .any, .any, .any, .any, .any, .any, .any, .any, .any, .any, .any, .any, .any, .any, .any, .any, .any, .a (.c (.sl 1 0 0 N N)), .any, .any, .any, .any, .any, .any, .any, .any, .any, .any, .any, .any, .any, .any, .any, .any, .any, .any, .any, .any, .any, .any, .any, .any, .any, .any, .any, .any, .any, .any, .any, .any, .any, .any, .any, .any, .any, .any, .any, .any, .any, .any, .any, .any, .any, .any, .any, .any, .any, .any, .any, .any, .any, .any, .any, .any, .any, .any, .any, .any, .any, .any, .any, .any, .any, .any, .any, .any, .any, .any, .any, .any, .any, .any, .any, .any, .any, .any, .any, .any, .any, .any, .any, .any, .any, .any, .any, .any, .any, .any, .a (.c (.int .i64 ((N : Int)))), .a (.c (.int .i64 ((x.2.2.2 : Nat)))), .any, .any, .any, .any, .any, .any, .any, .any, .any, .any, .any, .any, .any, .any, .any, .any, .any, .any, .any, .any, .any, .any, .any, .any, .any, .any, .any, .any, .any, .any, .any, .any, .any, .any], [[.past x.1 x.2.1], [.row (N * 4) (nthC x.2.2.1)]]⟩, fun x => RowAt x.1 x.2.1 x.2.2.1 (manyE x.2.2.2) ∧ x.2.2.2 ≤ N, fun x => N - x.2.2.2, entW_of ⟨(WC, msC, [], 0), [0, 6], ⟨⟨rfl, rfl, rfl⟩, ?_⟩, RowAt.nil, Nat.zero_le _⟩, fun x => ?_⟩
          · (repeat first | exact trivial | refine ent1 ?_)
          obtain ⟨WL, msL, csL, i⟩ := x
          rintro ⟨hRL, hiN⟩
          dsimp only at hRL hiN ⊢
          by_cases hi : i < N
          · have ki : decide ((i : Int) < (N : Int)) = true := decide_eq_true (by omega)
            (repeat first | (refine And.intro ?_ ?_; first | exact rfl | ((exact fun h => absurd h (by first | decide | (rw [ki]; decide))); intro yy; clear yy) | (rotate_left; (exact fun h => absurd h (by first | decide | (rw [ki]; decide))); intro yy; clear yy) | decide | omega) | (with_reducible refine frc_bytesL (by first | omega | decide) ?_) | (with_reducible refine frc_bytesM (by first | omega | decide) ?_))
            refine And.intro (show ((i : Int).toNat * 4 + 0) + 4 ≤ N * 4 by omega) ?_
            (repeat first | (refine And.intro ?_ ?_; first | exact rfl | ((exact fun h => absurd h (by first | decide | (rw [ki]; decide))); intro yy; clear yy) | (rotate_left; (exact fun h => absurd h (by first | decide | (rw [ki]; decide))); intro yy; clear yy) | decide | omega) | (with_reducible refine frc_bytesL (by first | omega | decide) ?_) | (with_reducible refine frc_bytesM (by first | omega | decide) ?_))
            refine entW_frz [0, 1] rfl Nat.zero_lt_one cx0_m rfl (fun W' ms' α hL hI => ?_)
            have h2 : ImAt W' ms' (α 2) [.w64 (BitVec.ofInt 64 (i : Int))] := hI 2 rfl (by show flat [Seg.row 1 _] ≠ []; simp [flat])
            have hev : EvAt W' ms' ⟨some ((α 2).add (0 + 0)), 1, 1, none, 0, 0⟩ ⟨6#8, 0#64, [BitVec.ofNat 64 i], []⟩ :=
              ⟨⟨rfl, Nat.le_refl _, (show (1 : Nat) ≤ 9223372036854775807 by decide), (fun e => by cases e), fun x e _ => by injection e with e; subst e; rw [← BitVec.ofInt_natCast]; exact h2.part (0 + 0) (fun j x hx => by simpa using hx)⟩, SlAt.nul⟩
            have hRn : RowAt W' ms' (csL ++ flat (evS ⟨6#8, 0#64, [BitVec.ofNat 64 i], []⟩ ⟨some ((α 2).add (0 + 0)), 1, 1, none, 0, 0⟩)) (manyE (i + 1)) := by
              rw [manyE_succ]; exact (hRL.later hL).snoc hev
            refine ⟨(W', ms', csL ++ flat (evS ⟨6#8, 0#64, [BitVec.ofNat 64 i], []⟩ ⟨some ((α 2).add (0 + 0)), 1, 1, none, 0, 0⟩), i + 1), [.any, .any, .any, .any, .any, .any, .any, .any, .any, .any, .any, .any, .any, .any, .any, .any, .any, .any, .any, .a (.c (.sl 1 0 0 N N)), .any, .any, .any, .any, .any, .any, .any, .any, .any, .any, .any, .any, .any, .any, .any, .any, .any, .any, .any, .any, .any, .any, .any, .any, .any, .any, .any, .any, .any, .any, .any, .any, .any, .any, .any, .any, .any, .any, .any, .any, .any, .any, .any, .any, .any, .any, .any, .any, .any, .any, .any, .any, .any, .any, .any, .any, .any, .any, .any, .any, .any, .any, .any, .any, .any, .any, .any, .any, .any, .any, .any, .any, .any, .any, .any, .any, .any, .any, .any, .any, .any, .any, .any, .any, .any, .any, .any, .any, .any, .any, .a (.c (.int .i64 ((N : Int)))), .a (.c (.int .i64 (((i + 1 : Nat) : Nat)))), .any, .any, .any, .any, .any, .any, .any, .any, .any, .any, .any, .any, .any, .any, .any, .any, .any, .any, .any, .any, .any, .any, .any, .any, .any, .any, .any, .any, .any, .any, .any, .any, .any, .any], [[.row (N * 4) (nthC (csL ++ flat (evS ⟨6#8, 0#64, [BitVec.ofNat 64 i], []⟩ ⟨some ((α 2).add (0 + 0)), 1, 1, none, 0, 0⟩)))]], ⟨⟨rfl, rfl, rfl⟩, ?_⟩, rfl, ⟨hRn, (show i + 1 ≤ N by omega)⟩, (show N - (i + 1) < N - i by omega)⟩
            (repeat first | exact trivial | refine ent1 ?_)
            refine ⟨fun j _ => upd_rz (by rw [hRL.len, manyE_len]) hRL.raw rfl (show (i : Int).toNat * 4 + 0 = i * 4 by omega) (fun j hj => ?_) j, ?_⟩
            · have : j = 0 ∨ j = 1 ∨ j = 2 ∨ j = 3 := by omega
              rcases this with rfl | rfl | rfl | rfl
              · (repeat first | exact trivial | refine ent1 ?_)
              · (repeat first | exact trivial | refine ent1 ?_)
              · exact ⟨rfl, trivial⟩
              · (repeat first | exact trivial | refine ent1 ?_)
            (repeat first | exact trivial | refine ent1 ?_)
          · have ki : decide ((i : Int) < (N : Int)) = false := decide_eq_false (by omega)
            (repeat first | (refine And.intro ?_ ?_; first | exact rfl | ((exact fun h => absurd h (by first | decide | (rw [ki]; decide))); intro yy; clear yy) | (rotate_left; (exact fun h => absurd h (by first | decide | (rw [ki]; decide))); intro yy; clear yy) | decide | omega) | (with_reducible refine frc_bytesL (by first | omega | decide) ?_) | (with_reducible refine frc_bytesM (by first | omega | decide) ?_))
            obtain rfl : i = N := by omega
            have hmc : csL.length = i * 4 := by rw [hRL.len, manyE_len]
            have hEv : ∀ (W' : World) (ms' : List Nat) (α : Nat → Addr), Later WL msL W' ms' → (flat [.row (i * 4) (nthC csL)] ≠ [] → ImAt W' ms' (α 1) (((flat [.row (i * 4) (nthC csL)]).map (SC.rz (fun j => memB j [1]) α)).map SC.raw)) → EvsAt W' ms' (some ((α 1).add (0 + 0))) i i (manyE i) := fun W' ms' α hL' hI => by
              refine (hRL.later hL').im (fun h0 => hI (fun e => ?_)) (fun j hj => ?_) (manyE_len i) (Nat.le_refl _) (by omega)
              · have := congrArg List.length e
                simp [flat] at this
                omega
              · rw [List.getElem?_map, List.getElem?_map]
                simp only [flat, List.append_nil, List.getElem?_map, List.getElem?_range (show j < i * 4 by omega), Option.map_some]
                rw [rz_raw (hRL.raw _ (nthC_mem hj))]
            by_cases hNN : i ≤ 2048
            · have kN : decide ((i : Int) ≤ 2048) = true := decide_eq_true (by omega)
              refine call_lend [1] 0 [] rfl rfl (by (repeat first | exact trivial | refine ent1 ?_)) NoP.nil (fun _ _ => trivial) (fun W' ms' α hL' hI => ⟨[.c (.slc (some ((α 1).add (0 + 0))) i i)], ?_, (fn_bencodeE (hEv W' ms' α hL' (hI 1 rfl)) hNN (err := 0) (by rw [enc_of (by rw [manyE_len]; exact hNN) (manyE_good (by omega))])).mono (Res' := fun y hs => ∃ t : Sl, t.Ok ∧ y = .tup [.c (svC 1 t), .c (.int .i64 0)] ∧ hs.drop 1 = [svB t]) (fun x hs hr => ?_)⟩) (fun x hs hr => ?_) ?_
              · (repeat first | exact trivial | refine ent1 ?_)
              · obtain ⟨t, h1, h2, rfl⟩ := hr
                exact ⟨t, h1, h2, rfl⟩
              · obtain ⟨t, _, _, h1⟩ := hr
                rw [h1]
                exact NoP.cons (fun W ms => bts_ne _ _ _ _ _ W ms) NoP.nil
              rintro y hs' ⟨tM, htM, rfl, hdropM⟩
              rw [hdropM]
              (repeat first | (refine And.intro ?_ ?_; first | exact rfl | ((exact fun h => absurd h (by first | decide | (rw [kN]; decide))); intro yy; clear yy) | (rotate_left; (exact fun h => absurd h (by first | decide | (rw [kN]; decide))); intro yy; clear yy) | decide | omega) | (with_reducible refine frc_bytesL (by first | omega | decide) ?_) | (with_reducible refine frc_bytesM (by first | omega | decide) ?_))
              refine ⟨.a (.c (.bool true)), [[.past WL msL]], ⟨[0], ⟨rfl, rfl, rfl⟩, ?_⟩, rfl⟩
              (repeat first | exact trivial | refine ent1 ?_)
              done
            · have kN : decide ((i : Int) ≤ 2048) = false := decide_eq_false (by omega)
              refine call_lend [1] 0 [] rfl rfl (by (repeat first | exact trivial | refine ent1 ?_)) NoP.nil (fun _ _ => trivial) (fun W' ms' α hL' hI => ⟨[.c (.slc (some ((α 1).add (0 + 0))) i i)], ?_, (fn_bencode (hEv W' ms' α hL' (hI 1 rfl))).mono (Res' := fun y hs => y = .tup [.c (.slc none 0 0), .c (.int .i64 7)] ∧ hs.drop 1 = []) (fun x hs hr => ?_)⟩) (fun x hs hr => ?_) ?_
              · (repeat first | exact trivial | refine ent1 ?_)
              · obtain ⟨h1, h2⟩ := hr.1 (by omega)
                exact ⟨h1, by rw [h2]; rfl⟩
              · rw [hr.2]; exact NoP.nil
              rintro y hs' ⟨rfl, hdropM⟩
              rw [hdropM]
              (repeat first | (refine And.intro ?_ ?_; first | exact rfl | ((exact fun h => absurd h (by first | decide | (rw [kN]; decide))); intro yy; clear yy) | (rotate_left; (exact fun h => absurd h (by first | decide | (rw [kN]; decide))); intro yy; clear yy) | decide | omega) | (with_reducible refine frc_bytesL (by first | omega | decide) ?_) | (with_reducible refine frc_bytesM (by first | omega | decide) ?_))
              refine ⟨.a (.c (.bool true)), [[.past WL msL]], ⟨[0], ⟨rfl, rfl, rfl⟩, ?_⟩, rfl⟩
              (repeat first | exact trivial | refine ent1 ?_)
              done
    · have k2 : decide ((k : Int) < (n : Int)) = false := decide_eq_false (by omega)
      (repeat first | (refine And.intro ?_ ?_; first | exact rfl | ((exact fun h => absurd h (by first | decide | (rw [k2]; decide))); intro yy; clear yy) | (rotate_left; (exact fun h => absurd h (by first | decide | (rw [k2]; decide))); intro yy; clear yy) | decide | omega) | (with_reducible refine frc_bytesL (by first | omega | decide) ?_) | (with_reducible refine frc_bytesM (by first | omega | decide) ?_))
      rcases Nat.eq_zero_or_pos k with hk0 | hk0
      · have k3 : decide ((0 : Int) < (k : Int)) = false := decide_eq_false (by omega)
        (repeat first | (refine And.intro ?_ ?_; first | exact rfl | ((exact fun h => absurd h (by first | decide | (rw [k3]; decide))); intro yy; clear yy) | (rotate_left; (exact fun h => absurd h (by first | decide | (rw [k3]; decide))); intro yy; clear yy) | decide | omega) | (with_reducible refine frc_bytesL (by first | omega | decide) ?_) | (with_reducible refine frc_bytesM (by first | omega | decide) ?_))
        obtain ⟨N, hN⟩ : ∃ N, 2044 + (at_ % 10#8).toNat = N := ⟨_, rfl⟩
        have hN2 : N < 2054 := by have : (at_ % 10#8).toNat < 10 := (by rw [BitVec.toNat_umod]; exact Nat.mod_lt _ (by decide)); omega
        (repeat first | (refine And.intro ?_ ?_; first | exact rfl | ((exact fun h => absurd h (by first | decide)); intro yy; clear yy) | (rotate_left; (exact fun h => absurd h (by first | decide)); intro yy; clear yy) | decide | omega) | (with_reducible refine frc_bytesL (by first | omega | decide) ?_) | (with_reducible refine frc_bytesM (by first | omega | decide) ?_))
        refine And.intro (show (0 : Int) ≤ 2044 + ((at_ % 10#8).toNat : Int) ∧ 2044 + ((at_ % 10#8).toNat : Int) ≤ 2044 + ((at_ % 10#8).toNat : Int) ∧ (2044 + ((at_ % 10#8).toNat : Int)) * 64 ≤ 140737488355328 ∧ 2044 + ((at_ % 10#8).toNat : Int) ≤ 9223372036854775807 by omega) ?_
        refine frcN_of (show (2044 + ((at_ % 10#8).toNat : Int)).toNat = N by omega) ?_
        refine frcN_of (show (2044 + ((at_ % 10#8).toNat : Int)).toNat = N by omega) ?_
        refine .inr ⟨0, World × List Nat × List SC × Nat, fun x => ⟨[.any, .any, .any, .any, .any, .any, .any, .any, .any, .any, .any, .any, .any, .any, .any, .any, .any, .any, .any, .a (.c (.sl 1 0 0 N N)), .any, .any, .any, .any, .any, .any, .any, .any, .any, .any, .any, .any, .any, .any, .any, .any, .any, .any, .any, .any, .any, .any, .any, .any, .any, .any, .any, .any, .any, .any, .any, .any, .any, .any, .any, .any, .any, .any, .any, .any, .any, .any, .any, .any, .any, .any, .any, .any, .any, .any, .any, .any, .any, .any, .any, .any, .any, .any, .any, .any, .any, .any, .any, .any, .any, .any, .any, .any, .any, .any, .any, .any, .any, .any, .any, .any, .any, .any, .any, .any, .any, .any, .any, .any, .any, .any, .any, .any, .any, .any, .a (.c (.int .i64 ((N : Int)))), .a (.c (.int .i64 ((x.2.2.2 : Nat)))), .any, .any, .any, .any, .any, .any, .any, .any, .any, .any, .any, .any, .any, .any, .any, .any, .any, .any, .any, .any, .any, .any, .any, .any, .any, .any, .any, .any, .any, .any, .any, .any, .any, .any], [[.past x.1 x.2.1], [.row (N * 4) (nthC x.2.2.1)]]⟩, fun x => RowAt x.1 x.2.1 x.2.2.1 (manyE x.2.2.2) ∧ x.2.2.2 ≤ N, fun x => N - x.2.2.2, entW_of ⟨(W1, ms1, [], 0), [0, 5], ⟨⟨rfl, rfl, rfl⟩, ?_⟩, RowAt.nil, Nat.zero_le _⟩, fun x => ?_⟩
        · (repeat first | exact trivial | refine ent1 ?_)
        obtain ⟨WL, msL, csL, i⟩ := x
        rintro ⟨hRL, hiN⟩
        dsimp only at hRL hiN ⊢
        by_cases hi : i < N
        · have ki : decide ((i : Int) < (N : Int)) = true := decide_eq_true (by omega)
          (repeat first | (refine And.intro ?_ ?_; first | exact rfl | ((exact fun h => absurd h (by first | decide | (rw [ki]; decide))); intro yy; clear yy) | (rotate_left; (exact fun h => absurd h (by first | decide | (rw [ki]; decide))); intro yy; clear yy) | decide | omega) | (with_reducible refine frc_bytesL (by first | omega | decide) ?_) | (with_reducible refine frc_bytesM (by first | omega | decide) ?_))
          refine And.intro (show ((i : Int).toNat * 4 + 0) + 4 ≤ N * 4 by omega) ?_
          (repeat first | (refine And.intro ?_ ?_; first | exact rfl | ((exact fun h => absurd h (by first | decide | (rw [ki]; decide))); intro yy; clear yy) | (rotate_left; (exact fun h => absurd h (by first | decide | (rw [ki]; decide))); intro yy; clear yy) | decide | omega) | (with_reducible refine frc_bytesL (by first | omega | decide) ?_) | (with_reducible refine frc_bytesM (by first | omega | decide) ?_))
          refine entW_frz [0, 1] rfl Nat.zero_lt_one cx0_m rfl (fun W' ms' α hL hI => ?_)
          have h2 : ImAt W' ms' (α 2) [.w64 (BitVec.ofInt 64 (i : Int))] := hI 2 rfl (by show flat [Seg.row 1 _] ≠ []; simp [flat])
          have hev : EvAt W' ms' ⟨some ((α 2).add (0 + 0)), 1, 1, none, 0, 0⟩ ⟨6#8, 0#64, [BitVec.ofNat 64 i], []⟩ :=
            ⟨⟨rfl, Nat.le_refl _, (show (1 : Nat) ≤ 9223372036854775807 by decide), (fun e => by cases e), fun x e _ => by injection e with e; subst e; rw [← BitVec.ofInt_natCast]; exact h2.part (0 + 0) (fun j x hx => by simpa using hx)⟩, SlAt.nul⟩
          have hRn : RowAt W' ms' (csL ++ flat (evS ⟨6#8, 0#64, [BitVec.ofNat 64 i], []⟩ ⟨some ((α 2).add (0 + 0)), 1, 1, none, 0, 0⟩)) (manyE (i + 1)) := by
            rw [manyE_succ]; exact (hRL.later hL).snoc hev
          refine ⟨(W', ms', csL ++ flat (evS ⟨6#8, 0#64, [BitVec.ofNat 64 i], []⟩ ⟨some ((α 2).add (0 + 0)), 1, 1, none, 0, 0⟩), i + 1), [.any, .any, .any, .any, .any, .any, .any, .any, .any, .any, .any, .any, .any, .any, .any, .any, .any, .any, .any, .a (.c (.sl 1 0 0 N N)), .any, .any, .any, .any, .any, .any, .any, .any, .any, .any, .any, .any, .any, .any, .any, .any, .any, .any, .any, .any, .any, .any, .any, .any, .any, .any, .any, .any, .any, .any, .any, .any, .any, .any, .any, .any, .any, .any, .any, .any, .any, .any, .any, .any, .any, .any, .any, .any, .any, .any, .any, .any, .any, .any, .any, .any, .any, .any, .any, .any, .any, .any, .any, .any, .any, .any, .any, .any, .any, .any, .any, .any, .any, .any, .any, .any, .any, .any, .any, .any, .any, .any, .any, .any, .any, .any, .any, .any, .any, .any, .a (.c (.int .i64 ((N : Int)))), .a (.c (.int .i64 (((i + 1 : Nat) : Nat)))), .any, .any, .any, .any, .any, .any, .any, .any, .any, .any, .any, .any, .any, .any, .any, .any, .any, .any, .any, .any, .any, .any, .any, .any, .any, .any, .any, .any, .any, .any, .any, .any, .any, .any], [[.row (N * 4) (nthC (csL ++ flat (evS ⟨6#8, 0#64, [BitVec.ofNat 64 i], []⟩ ⟨some ((α 2).add (0 + 0)), 1, 1, none, 0, 0⟩)))]], ⟨⟨rfl, rfl, rfl⟩, ?_⟩, rfl, ⟨hRn, (show i + 1 ≤ N by omega)⟩, (show N - (i + 1) < N - i by omega)⟩
          (repeat first | exact trivial | refine ent1 ?_)
          refine ⟨fun j _ => upd_rz (by rw [hRL.len, manyE_len]) hRL.raw rfl (show (i : Int).toNat * 4 + 0 = i * 4 by omega) (fun j hj => ?_) j, ?_⟩
          · have : j = 0 ∨ j = 1 ∨ j = 2 ∨ j = 3 := by omega
            rcases this with rfl | rfl | rfl | rfl
            · (repeat first | exact trivial | refine ent1 ?_)
            · (repeat first | exact trivial | refine ent1 ?_)
            · exact ⟨rfl, trivial⟩
            · (repeat first | exact trivial | refine ent1 ?_)
          (repeat first | exact trivial | refine ent1 ?_)
        · have ki : decide ((i : Int) < (N : Int)) = false := decide_eq_false (by omega)
          (repeat first | (refine And.intro ?_ ?_; first | exact rfl | ((exact fun h => absurd h (by first | decide | (rw [ki]; decide))); intro yy; clear yy) | (rotate_left; (exact fun h => absurd h (by first | decide | (rw [ki]; decide))); intro yy; clear yy) | decide | omega) | (with_reducible refine frc_bytesL (by first | omega | decide) ?_) | (with_reducible refine frc_bytesM (by first | omega | decide) ?_))
          obtain rfl : i = N := by omega
          have hmc : csL.length = i * 4 := by rw [hRL.len, manyE_len]
          have hEv : ∀ (W' : World) (ms' : List Nat) (α : Nat → Addr), Later WL msL W' ms' → (flat [.row (i * 4) (nthC csL)] ≠ [] → ImAt W' ms' (α 1) (((flat [.row (i * 4) (nthC csL)]).map (SC.rz (fun j => memB j [1]) α)).map SC.raw)) → EvsAt W' ms' (some ((α 1).add (0 + 0))) i i (manyE i) := fun W' ms' α hL' hI => by
            refine (hRL.later hL').im (fun h0 => hI (fun e => ?_)) (fun j hj => ?_) (manyE_len i) (Nat.le_refl _) (by omega)
            · have := congrArg List.length e
              simp [flat] at this
              omega
            · rw [List.getElem?_map, List.getElem?_map]
              simp only [flat, List.append_nil, List.getElem?_map, List.getElem?_range (show j < i * 4 by omega), Option.map_some]
              rw [rz_raw (hRL.raw _ (nthC_mem hj))]
          by_cases hNN : i ≤ 2048
          · have kN : decide ((i : Int) ≤ 2048) = true := decide_eq_true (by omega)
            refine call_lend [1] 0 [] rfl rfl (by (repeat first | exact trivial | refine ent1 ?_)) NoP.nil (fun _ _ => trivial) (fun W' ms' α hL' hI => ⟨[.c (.slc (some ((α 1).add (0 + 0))) i i)], ?_, (fn_bencodeE (hEv W' ms' α hL' (hI 1 rfl)) hNN (err := 0) (by rw [enc_of (by rw [manyE_len]; exact hNN) (manyE_good (by omega))])).mono (Res' := fun y hs => ∃ t : Sl, t.Ok ∧ y = .tup [.c (svC 1 t), .c (.int .i64 0)] ∧ hs.drop 1 = [svB t]) (fun x hs hr => ?_)⟩) (fun x hs hr => ?_) ?_
            · (repeat first | exact trivial | refine ent1 ?_)
            · obtain ⟨t, h1, h2, rfl⟩ := hr
              exact ⟨t, h1, h2, rfl⟩
            · obtain ⟨t, _, _, h1⟩ := hr
              rw [h1]
              exact NoP.cons (fun W ms => bts_ne _ _ _ _ _ W ms) NoP.nil
            rintro y hs' ⟨tM, htM, rfl, hdropM⟩
            rw [hdropM]
            (repeat first | (refine And.intro ?_ ?_; first | exact rfl | ((exact fun h => absurd h (by first | decide | (rw [kN]; decide))); intro yy; clear yy) | (rotate_left; (exact fun h => absurd h (by first | decide | (rw [kN]; decide))); intro yy; clear yy) | decide | omega) | (with_reducible refine frc_bytesL (by first | omega | decide) ?_) | (with_reducible refine frc_bytesM (by first | omega | decide) ?_))
            refine ⟨.a (.c (.bool true)), [[.past WL msL]], ⟨[0], ⟨rfl, rfl, rfl⟩, ?_⟩, rfl⟩
            (repeat first | exact trivial | refine ent1 ?_)
            done
          · have kN : decide ((i : Int) ≤ 2048) = false := decide_eq_false (by omega)
            refine call_lend [1] 0 [] rfl rfl (by (repeat first | exact trivial | refine ent1 ?_)) NoP.nil (fun _ _ => trivial) (fun W' ms' α hL' hI => ⟨[.c (.slc (some ((α 1).add (0 + 0))) i i)], ?_, (fn_bencode (hEv W' ms' α hL' (hI 1 rfl))).mono (Res' := fun y hs => y = .tup [.c (.slc none 0 0), .c (.int .i64 7)] ∧ hs.drop 1 = []) (fun x hs hr => ?_)⟩) (fun x hs hr => ?_) ?_
            · (repeat first | exact trivial | refine ent1 ?_)
            · obtain ⟨h1, h2⟩ := hr.1 (by omega)
              exact ⟨h1, by rw [h2]; rfl⟩
            · rw [hr.2]; exact NoP.nil
            rintro y hs' ⟨rfl, hdropM⟩
            rw [hdropM]
            (repeat first | (refine And.intro ?_ ?_; first | exact rfl | ((exact fun h => absurd h (by first | decide | (rw [kN]; decide))); intro yy; clear yy) | (rotate_left; (exact fun h => absurd h (by first | decide | (rw [kN]; decide))); intro yy; clear yy) | decide | omega) | (with_reducible refine frc_bytesL (by first | omega | decide) ?_) | (with_reducible refine frc_bytesM (by first | omega | decide) ?_))
            refine ⟨.a (.c (.bool true)), [[.past WL msL]], ⟨[0], ⟨rfl, rfl, rfl⟩, ?_⟩, rfl⟩
            (repeat first | exact trivial | refine ent1 ?_)
            done
      · have k3 : decide ((0 : Int) < (k : Int)) = true := decide_eq_true (by omega)
        cases haR : aR with
        | none => have := hrow.nil haR; have := hrow.le; omega
        | some A =>
        subst haR
        obtain ⟨z, hz⟩ : ∃ z, row[k - 1]? = some z := ⟨_, List.getElem?_eq_getElem (by omega)⟩
        obtain ⟨zx, him, hza⟩ := hrow.elt A rfl (k - 1) z hz
        have him : ImAt W1 ms1 (A.add (((k : Int) - 1).toNat * 4)) (flat (evS z zx)) := by rw [show ((k : Int) - 1).toNat = k - 1 by omega]; exact him
        (repeat first | (refine And.intro ?_ ?_; first | exact rfl | ((exact fun h => absurd h (by first | decide | (rw [k3]; decide))); intro yy; clear yy) | (rotate_left; (exact fun h => absurd h (by first | decide | (rw [k3]; decide))); intro yy; clear yy) | decide | omega) | (with_reducible refine frc_bytesL (by first | omega | decide) ?_) | (with_reducible refine frc_bytesM (by first | omega | decide) ?_))
        refine loadR (i := 0) rfl him (j := 1) (y := .w64 z.t) rfl ?_
        by_cases h4 : 0#64 < z.t
        · have k4 : decide (0#64 < z.t) = true := decide_eq_true h4
          (repeat first | (refine And.intro ?_ ?_; first | exact rfl | ((exact fun h => absurd h (by first | decide | (rw [k3]; decide) | (rw [k4]; decide))); intro yy; clear yy) | (rotate_left; (exact fun h => absurd h (by first | decide | (rw [k3]; decide) | (rw [k4]; decide))); intro yy; clear yy) | decide | omega) | (with_reducible refine frc_bytesL (by first | omega | decide) ?_) | (with_reducible refine frc_bytesM (by first | omega | decide) ?_))
          refine loadR (i := 0) rfl him (j := 1) (y := .w64 z.t) rfl ?_
          (repeat first | (refine And.intro ?_ ?_; first | exact rfl | ((exact fun h => absurd h (by first | decide)); intro yy; clear yy) | (rotate_left; (exact fun h => absurd h (by first | decide)); intro yy; clear yy) | decide | omega) | (with_reducible refine frc_bytesL (by first | omega | decide) ?_) | (with_reducible refine frc_bytesM (by first | omega | decide) ?_))
          obtain ⟨csN, hrN, hiN⟩ := hrow.row (by omega)
          refine call_same (fn_withN hrN hiN hrow.len hrow.le (by omega) (by omega) (z.t - 1#64) k hkn) [0, 3, 4, 5] rfl (by (repeat first | exact trivial | refine ent1 ?_)) (by (repeat first | exact trivial | refine ent1 ?_); refine ⟨fun j _ => eqC_cells (L := [.w64 1#64]) (fun _ _ => rfl) (fun x hx => by simp at hx; subst hx; (repeat first | exact trivial | refine ent1 ?_)) j, ?_⟩; (repeat first | exact trivial | refine ent1 ?_)) (fun _ _ => trivial) ?_
          rintro y hs' ⟨cN, hcN, rfl, rfl⟩
          (repeat first | (refine And.intro ?_ ?_; first | exact rfl | ((exact fun h => absurd h (by first | decide)); intro yy; clear yy) | (rotate_left; (exact fun h => absurd h (by first | decide)); intro yy; clear yy) | decide | omega) | (with_reducible refine frc_bytesL (by first | omega | decide) ?_) | (with_reducible refine frc_bytesM (by first | omega | decide) ?_))
          have henc := enc_time (es := row.take k) (fs := row.drop k) (t := z.t) (by rw [List.length_take, List.length_drop]; omega) (hg0.1.take k) (fun z hz => hg0.2 z (List.mem_of_mem_take hz)) (hg0.1.hi hz) (by rw [BitVec.lt_def] at h4; simpa using h4) (by have := lastT_eq (last := 0#64) hz; rwa [show k - 1 + 1 = k by omega] at this)
          refine call_lend [5, 6] 0 [] rfl rfl (by (repeat first | exact trivial | refine ent1 ?_)) NoP.nil (fun _ _ => trivial) (fun W' ms' α hL' hI => ⟨[.c (.slc (some ((α 6).add (0 + 0))) (n + 1) cN)], ?_, (fn_bencodeE (lendN (F := fun j => memB j [5, 6]) (g := bk 6 [0, 3, 4, 5]) (nb := 5) (nr := 6) hrN hL' rfl rfl hkn hrow.len hcN (by omega) (hI 5 rfl (by show flat [Seg.row 1 _] ≠ []; simp [flat])) (hI 6 rfl)) (by omega) (err := 21) (by rw [henc])).mono (Res' := fun y hs => ∃ t : Sl, t.Ok ∧ y = .tup [.c (svC 1 t), .c (.int .i64 21)] ∧ hs.drop 1 = [svB t]) (fun x hs hr => ?_)⟩) (fun x hs hr => ?_) ?_
          · (repeat first | exact trivial | refine ent1 ?_)
          · obtain ⟨t, h1, h2, rfl⟩ := hr
            exact ⟨t, h1, h2, rfl⟩
          · obtain ⟨t, _, _, h1⟩ := hr
            rw [h1]
            exact NoP.cons (fun W ms => bts_ne _ _ _ _ _ W ms) NoP.nil
          rintro y hs' ⟨tN, htN, rfl, hdropN⟩
          rw [hdropN]
          have e21 : decide ((21 : Int) ≠ 21) = false := by decide
          (repeat first | (refine And.intro ?_ ?_; first | exact rfl | ((exact fun h => absurd h (by first | decide | (rw [e21]; decide))); intro yy; clear yy) | (rotate_left; (exact fun h => absurd h (by first | decide | (rw [e21]; decide))); intro yy; clear yy) | decide | omega) | (with_reducible refine frc_bytesL (by first | omega | decide) ?_) | (with_reducible refine frc_bytesM (by first | omega | decide) ?_))
          obtain ⟨N, hN⟩ : ∃ N, 2044 + (at_ % 10#8).toNat = N := ⟨_, rfl⟩
          have hN2 : N < 2054 := by have : (at_ % 10#8).toNat < 10 := (by rw [BitVec.toNat_umod]; exact Nat.mod_lt _ (by decide)); omega
          (repeat first | (refine And.intro ?_ ?_; first | exact rfl | ((exact fun h => absurd h (by first | decide)); intro yy; clear yy) | (rotate_left; (exact fun h => absurd h (by first | decide)); intro yy; clear yy) | decide | omega) | (with_reducible refine frc_bytesL (by first | omega | decide) ?_) | (with_reducible refine frc_bytesM (by first | omega | decide) ?_))
          refine And.intro (show (0 : Int) ≤ 2044 + ((at_ % 10#8).toNat : Int) ∧ 2044 + ((at_ % 10#8).toNat : Int) ≤ 2044 + ((at_ % 10#8).toNat : Int) ∧ (2044 + ((at_ % 10#8).toNat : Int)) * 64 ≤ 140737488355328 ∧ 2044 + ((at_ % 10#8).toNat : Int) ≤ 9223372036854775807 by omega) ?_
          refine frcN_of (show (2044 + ((at_ % 10#8).toNat : Int)).toNat = N by omega) ?_
          refine frcN_of (show (2044 + ((at_ % 10#8).toNat : Int)).toNat = N by omega) ?_
          refine .inr ⟨0, World × List Nat × List SC × Nat, fun x => ⟨[.any, .any, .any, .any, .any, .any, .any, .any, .any, .any, .any, .any, .any, .any, .any, .any, .any, .any, .any, .a (.c (.sl 1 0 0 N N)), .any, .any, .any, .any, .any, .any, .any, .any, .any, .any, .any, .any, .any, .any, .any, .any, .any, .any, .any, .any, .any, .any, .any, .any, .any, .any, .any, .any, .any, .any, .any, .any, .any, .any, .any, .any, .any, .any, .any, .any, .any, .any, .any, .any, .any, .any, .any, .any, .any, .any, .any, .any, .any, .any, .any, .any, .any, .any, .any, .any, .any, .any, .any, .any, .any, .any, .any, .any, .any, .any, .any, .any, .any, .any, .any, .any, .any, .any, .any, .any, .any, .any, .any, .any, .any, .any, .any, .any, .any, .any, .a (.c (.int .i64 ((N : Int)))), .a (.c (.int .i64 ((x.2.2.2 : Nat)))), .any, .any, .any, .any, .any, .any, .any, .any, .any, .any, .any, .any, .any, .any, .any, .any, .any, .any, .any, .any, .any, .any, .any, .any, .any, .any, .any, .any, .any, .any, .any, .any, .any, .any], [[.past x.1 x.2.1], [.row (N * 4) (nthC x.2.2.1)]]⟩, fun x => RowAt x.1 x.2.1 x.2.2.1 (manyE x.2.2.2) ∧ x.2.2.2 ≤ N, fun x => N - x.2.2.2, entW_of ⟨(W1, ms1, [], 0), [0, 8], ⟨⟨rfl, rfl, rfl⟩, ?_⟩, RowAt.nil, Nat.zero_le _⟩, fun x => ?_⟩
          · (repeat first | exact trivial | refine ent1 ?_)
          obtain ⟨WL, msL, csL, i⟩ := x
          rintro ⟨hRL, hiN⟩
          dsimp only at hRL hiN ⊢
          by_cases hi : i < N
          · have ki : decide ((i : Int) < (N : Int)) = true := decide_eq_true (by omega)
            (repeat first | (refine And.intro ?_ ?_; first | exact rfl | ((exact fun h => absurd h (by first | decide | (rw [ki]; decide))); intro yy; clear yy) | (rotate_left; (exact fun h => absurd h (by first | decide | (rw [ki]; decide))); intro yy; clear yy) | decide | omega) | (with_reducible refine frc_bytesL (by first | omega | decide) ?_) | (with_reducible refine frc_bytesM (by first | omega | decide) ?_))
            refine And.intro (show ((i : Int).toNat * 4 + 0) + 4 ≤ N * 4 by omega) ?_
            (repeat first | (refine And.intro ?_ ?_; first | exact rfl | ((exact fun h => absurd h (by first | decide | (rw [ki]; decide))); intro yy; clear yy) | (rotate_left; (exact fun h => absurd h (by first | decide | (rw [ki]; decide))); intro yy; clear yy) | decide | omega) | (with_reducible refine frc_bytesL (by first | omega | decide) ?_) | (with_reducible refine frc_bytesM (by first | omega | decide) ?_))
            refine entW_frz [0, 1] rfl Nat.zero_lt_one cx0_m rfl (fun W' ms' α hL hI => ?_)
            have h2 : ImAt W' ms' (α 2) [.w64 (BitVec.ofInt 64 (i : Int))] := hI 2 rfl (by show flat [Seg.row 1 _] ≠ []; simp [flat])
            have hev : EvAt W' ms' ⟨some ((α 2).add (0 + 0)), 1, 1, none, 0, 0⟩ ⟨6#8, 0#64, [BitVec.ofNat 64 i], []⟩ :=
              ⟨⟨rfl, Nat.le_refl _, (show (1 : Nat) ≤ 9223372036854775807 by decide), (fun e => by cases e), fun x e _ => by injection e with e; subst e; rw [← BitVec.ofInt_natCast]; exact h2.part (0 + 0) (fun j x hx => by simpa using hx)⟩, SlAt.nul⟩
            have hRn : RowAt W' ms' (csL ++ flat (evS ⟨6#8, 0#64, [BitVec.ofNat 64 i], []⟩ ⟨some ((α 2).add (0 + 0)), 1, 1, none, 0, 0⟩)) (manyE (i + 1)) := by
              rw [manyE_succ]; exact (hRL.later hL).snoc hev
            refine ⟨(W', ms', csL ++ flat (evS ⟨6#8, 0#64, [BitVec.ofNat 64 i], []⟩ ⟨some ((α 2).add (0 + 0)), 1, 1, none, 0, 0⟩), i + 1), [.any, .any, .any, .any, .any, .any, .any, .any, .any, .any, .any, .any, .any, .any, .any, .any, .any, .any, .any, .a (.c (.sl 1 0 0 N N)), .any, .any, .any, .any, .any, .any, .any, .any, .any, .any, .any, .any, .any, .any, .any, .any, .any, .any, .any, .any, .any, .any, .any, .any, .any, .any, .any, .any, .any, .any, .any, .any, .any, .any, .any, .any, .any, .any, .any, .any, .any, .any, .any, .any, .any, .any, .any, .any, .any, .any, .any, .any, .any, .any, .any, .any, .any, .any, .any, .any, .any, .any, .any, .any, .any, .any, .any, .any, .any, .any, .any, .any, .any, .any, .any, .any, .any, .any, .any, .any, .any, .any, .any, .any, .any, .any, .any, .any, .any, .any, .a (.c (.int .i64 ((N : Int)))), .a (.c (.int .i64 (((i + 1 : Nat) : Nat)))), .any, .any, .any, .any, .any, .any, .any, .any, .any, .any, .any, .any, .any, .any, .any, .any, .any, .any, .any, .any, .any, .any, .any, .any, .any, .any, .any, .any, .any, .any, .any, .any, .any, .any], [[.row (N * 4) (nthC (csL ++ flat (evS ⟨6#8, 0#64, [BitVec.ofNat 64 i], []⟩ ⟨some ((α 2).add (0 + 0)), 1, 1, none, 0, 0⟩)))]], ⟨⟨rfl, rfl, rfl⟩, ?_⟩, rfl, ⟨hRn, (show i + 1 ≤ N by omega)⟩, (show N - (i + 1) < N - i by omega)⟩
            (repeat first | exact trivial | refine ent1 ?_)
            refine ⟨fun j _ => upd_rz (by rw [hRL.len, manyE_len]) hRL.raw rfl (show (i : Int).toNat * 4 + 0 = i * 4 by omega) (fun j hj => ?_) j, ?_⟩
            · have : j = 0 ∨ j = 1 ∨ j = 2 ∨ j = 3 := by omega
              rcases this with rfl | rfl | rfl | rfl
              · (repeat first | exact trivial | refine ent1 ?_)
              · (repeat first | exact trivial | refine ent1 ?_)
              · exact ⟨rfl, trivial⟩
              · (repeat first | exact trivial | refine ent1 ?_)
            (repeat first | exact trivial | refine ent1 ?_)
          · have ki : decide ((i : Int) < (N : Int)) = false := decide_eq_false (by omega)
            (repeat first | (refine And.intro ?_ ?_; first | exact rfl | ((exact fun h => absurd h (by first | decide | (rw [ki]; decide))); intro yy; clear yy) | (rotate_left; (exact fun h => absurd h (by first | decide | (rw [ki]; decide))); intro yy; clear yy) | decide | omega) | (with_reducible refine frc_bytesL (by first | omega | decide) ?_) | (with_reducible refine frc_bytesM (by first | omega | decide) ?_))
            obtain rfl : i = N := by omega
            have hmc : csL.length = i * 4 := by rw [hRL.len, manyE_len]
            have hEv : ∀ (W' : World) (ms' : List Nat) (α : Nat → Addr), Later WL msL W' ms' → (flat [.row (i * 4) (nthC csL)] ≠ [] → ImAt W' ms' (α 1) (((flat [.row (i * 4) (nthC csL)]).map (SC.rz (fun j => memB j [1]) α)).map SC.raw)) → EvsAt W' ms' (some ((α 1).add (0 + 0))) i i (manyE i) := fun W' ms' α hL' hI => by
              refine (hRL.later hL').im (fun h0 => hI (fun e => ?_)) (fun j hj => ?_) (manyE_len i) (Nat.le_refl _) (by omega)
              · have := congrArg List.length e
                simp [flat] at this
                omega
              · rw [List.getElem?_map, List.getElem?_map]
                simp only [flat, List.append_nil, List.getElem?_map, List.getElem?_range (show j < i * 4 by omega), Option.map_some]
                rw [rz_raw (hRL.raw _ (nthC_mem hj))]
            by_cases hNN : i ≤ 2048
            · have kN : decide ((i : Int) ≤ 2048) = true := decide_eq_true (by omega)
              refine call_lend [1] 0 [] rfl rfl (by (repeat first | exact trivial | refine ent1 ?_)) NoP.nil (fun _ _ => trivial) (fun W' ms' α hL' hI => ⟨[.c (.slc (some ((α 1).add (0 + 0))) i i)], ?_, (fn_bencodeE (hEv W' ms' α hL' (hI 1 rfl)) hNN (err := 0) (by rw [enc_of (by rw [manyE_len]; exact hNN) (manyE_good (by omega))])).mono (Res' := fun y hs => ∃ t : Sl, t.Ok ∧ y = .tup [.c (svC 1 t), .c (.int .i64 0)] ∧ hs.drop 1 = [svB t]) (fun x hs hr => ?_)⟩) (fun x hs hr => ?_) ?_
              · (repeat first | exact trivial | refine ent1 ?_)
              · obtain ⟨t, h1, h2, rfl⟩ := hr
                exact ⟨t, h1, h2, rfl⟩
              · obtain ⟨t, _, _, h1⟩ := hr
                rw [h1]
                exact NoP.cons (fun W ms => bts_ne _ _ _ _ _ W ms) NoP.nil
              rintro y hs' ⟨tM, htM, rfl, hdropM⟩
              rw [hdropM]
              (repeat first | (refine And.intro ?_ ?_; first | exact rfl | ((exact fun h => absurd h (by first | decide | (rw [kN]; decide))); intro yy; clear yy) | (rotate_left; (exact fun h => absurd h (by first | decide | (rw [kN]; decide))); intro yy; clear yy) | decide | omega) | (with_reducible refine frc_bytesL (by first | omega | decide) ?_) | (with_reducible refine frc_bytesM (by first | omega | decide) ?_))
              refine ⟨.a (.c (.bool true)), [[.past WL msL]], ⟨[0], ⟨rfl, rfl, rfl⟩, ?_⟩, rfl⟩
              (repeat first | exact trivial | refine ent1 ?_)
              done
            · have kN : decide ((i : Int) ≤ 2048) = false := decide_eq_false (by omega)
              refine call_lend [1] 0 [] rfl rfl (by (repeat first | exact trivial | refine ent1 ?_)) NoP.nil (fun _ _ => trivial) (fun W' ms' α hL' hI => ⟨[.c (.slc (some ((α 1).add (0 + 0))) i i)], ?_, (fn_bencode (hEv W' ms' α hL' (hI 1 rfl))).mono (Res' := fun y hs => y = .tup [.c (.slc none 0 0), .c (.int .i64 7)] ∧ hs.drop 1 = []) (fun x hs hr => ?_)⟩) (fun x hs hr => ?_) ?_
              · (repeat first | exact trivial | refine ent1 ?_)
              · obtain ⟨h1, h2⟩ := hr.1 (by omega)
                exact ⟨h1, by rw [h2]; rfl⟩
              · rw [hr.2]; exact NoP.nil
              rintro y hs' ⟨rfl, hdropM⟩
              rw [hdropM]
              (repeat first | (refine And.intro ?_ ?_; first | exact rfl | ((exact fun h => absurd h (by first | decide | (rw [kN]; decide))); intro yy; clear yy) | (rotate_left; (exact fun h => absurd h (by first | decide | (rw [kN]; decide))); intro yy; clear yy) | decide | omega) | (with_reducible refine frc_bytesL (by first | omega | decide) ?_) | (with_reducible refine frc_bytesM (by first | omega | decide) ?_))
              refine ⟨.a (.c (.bool true)), [[.past WL msL]], ⟨[0], ⟨rfl, rfl, rfl⟩, ?_⟩, rfl⟩
              (repeat first | exact trivial | refine ent1 ?_)
              done
        · have k4 : decide (0#64 < z.t) = false := decide_eq_false h4
          (repeat first | (refine And.intro ?_ ?_; first | exact rfl | ((exact fun h => absurd h (by first | decide | (rw [k3]; decide) | (rw [k4]; decide))); intro yy; clear yy) | (rotate_left; (exact fun h => absurd h (by first | decide | (rw [k3]; decide) | (rw [k4]; decide))); intro yy; clear yy) | decide | omega) | (with_reducible refine frc_bytesL (by first | omega | decide) ?_) | (with_reducible refine frc_bytesM (by first | omega | decide) ?_))
          obtain ⟨N, hN⟩ : ∃ N, 2044 + (at_ % 10#8).toNat = N := ⟨_, rfl⟩
          have hN2 : N < 2054 := by have : (at_ % 10#8).toNat < 10 := (by rw [BitVec.toNat_umod]; exact Nat.mod_lt _ (by decide)); omega
          (repeat first | (refine And.intro ?_ ?_; first | exact rfl | ((exact fun h => absurd h (by first | decide)); intro yy; clear yy) | (rotate_left; (exact fun h => absurd h (by first | decide)); intro yy; clear yy) | decide | omega) | (with_reducible refine frc_bytesL (by first | omega | decide) ?_) | (with_reducible refine frc_bytesM (by first | omega | decide) ?_))
          refine And.intro (show (0 : Int) ≤ 2044 + ((at_ % 10#8).toNat : Int) ∧ 2044 + ((at_ % 10#8).toNat : Int) ≤ 2044 + ((at_ % 10#8).toNat : Int) ∧ (2044 + ((at_ % 10#8).toNat : Int)) * 64 ≤ 140737488355328 ∧ 2044 + ((at_ % 10#8).toNat : Int) ≤ 9223372036854775807 by omega) ?_
          refine frcN_of (show (2044 + ((at_ % 10#8).toNat : Int)).toNat = N by omega) ?_
          refine frcN_of (show (2044 + ((at_ % 10#8).toNat : Int)).toNat = N by omega) ?_
          refine .inr ⟨0, World × List Nat × List SC × Nat, fun x => ⟨[.any, .any, .any, .any, .any, .any, .any, .any, .any, .any, .any, .any, .any, .any, .any, .any, .any, .any, .any, .a (.c (.sl 1 0 0 N N)), .any, .any, .any, .any, .any, .any, .any, .any, .any, .any, .any, .any, .any, .any, .any, .any, .any, .any, .any, .any, .any, .any, .any, .any, .any, .any, .any, .any, .any, .any, .any, .any, .any, .any, .any, .any, .any, .any, .any, .any, .any, .any, .any, .any, .any, .any, .any, .any, .any, .any, .any, .any, .any, .any, .any, .any, .any, .any, .any, .any, .any, .any, .any, .any, .any, .any, .any, .any, .any, .any, .any, .any, .any, .any, .any, .any, .any, .any, .any, .any, .any, .any, .any, .any, .any, .any, .any, .any, .any, .any, .a (.c (.int .i64 ((N : Int)))), .a (.c (.int .i64 ((x.2.2.2 : Nat)))), .any, .any, .any, .any, .any, .any, .any, .any, .any, .any, .any, .any, .any, .any, .any, .any, .any, .any, .any, .any, .any, .any, .any, .any, .any, .any, .any, .any, .any, .any, .any, .any, .any, .any], [[.past x.1 x.2.1], [.row (N * 4) (nthC x.2.2.1)]]⟩, fun x => RowAt x.1 x.2.1 x.2.2.1 (manyE x.2.2.2) ∧ x.2.2.2 ≤ N, fun x => N - x.2.2.2, entW_of ⟨(W1, ms1, [], 0), [0, 5], ⟨⟨rfl, rfl, rfl⟩, ?_⟩, RowAt.nil, Nat.zero_le _⟩, fun x => ?_⟩
          · (repeat first | exact trivial | refine ent1 ?_)
          obtain ⟨WL, msL, csL, i⟩ := x
          rintro ⟨hRL, hiN⟩
          dsimp only at hRL hiN ⊢
          by_cases hi : i < N
          · have ki : decide ((i : Int) < (N : Int)) = true := decide_eq_true (by omega)
            (repeat first | (refine And.intro ?_ ?_; first | exact rfl | ((exact fun h => absurd h (by first | decide | (rw [ki]; decide))); intro yy; clear yy) | (rotate_left; (exact fun h => absurd h (by first | decide | (rw [ki]; decide))); intro yy; clear yy) | decide | omega) | (with_reducible refine frc_bytesL (by first | omega | decide) ?_) | (with_reducible refine frc_bytesM (by first | omega | decide) ?_))
            refine And.intro (show ((i : Int).toNat * 4 + 0) + 4 ≤ N * 4 by omega) ?_
            (repeat first | (refine And.intro ?_ ?_; first | exact rfl | ((exact fun h => absurd h (by first | decide | (rw [ki]; decide))); intro yy; clear yy) | (rotate_left; (exact fun h => absurd h (by first | decide | (rw [ki]; decide))); intro yy; clear yy) | decide | omega) | (with_reducible refine frc_bytesL (by first | omega | decide) ?_) | (with_reducible refine frc_bytesM (by first | omega | decide) ?_))
            refine entW_frz [0, 1] rfl Nat.zero_lt_one cx0_m rfl (fun W' ms' α hL hI => ?_)
            have h2 : ImAt W' ms' (α 2) [.w64 (BitVec.ofInt 64 (i : Int))] := hI 2 rfl (by show flat [Seg.row 1 _] ≠ []; simp [flat])
            have hev : EvAt W' ms' ⟨some ((α 2).add (0 + 0)), 1, 1, none, 0, 0⟩ ⟨6#8, 0#64, [BitVec.ofNat 64 i], []⟩ :=
              ⟨⟨rfl, Nat.le_refl _, (show (1 : Nat) ≤ 9223372036854775807 by decide), (fun e => by cases e), fun x e _ => by injection e with e; subst e; rw [← BitVec.ofInt_natCast]; exact h2.part (0 + 0) (fun j x hx => by simpa using hx)⟩, SlAt.nul⟩
            have hRn : RowAt W' ms' (csL ++ flat (evS ⟨6#8, 0#64, [BitVec.ofNat 64 i], []⟩ ⟨some ((α 2).add (0 + 0)), 1, 1, none, 0, 0⟩)) (manyE (i + 1)) := by
              rw [manyE_succ]; exact (hRL.later hL).snoc hev
            refine ⟨(W', ms', csL ++ flat (evS ⟨6#8, 0#64, [BitVec.ofNat 64 i], []⟩ ⟨some ((α 2).add (0 + 0)), 1, 1, none, 0, 0⟩), i + 1), [.any, .any, .any, .any, .any, .any, .any, .any, .any, .any, .any, .any, .any, .any, .any, .any, .any, .any, .any, .a (.c (.sl 1 0 0 N N)), .any, .any, .any, .any, .any, .any, .any, .any, .any, .any, .any, .any, .any, .any, .any, .any, .any, .any, .any, .any, .any, .any, .any, .any, .any, .any, .any, .any, .any, .any, .any, .any, .any, .any, .any, .any, .any, .any, .any, .any, .any, .any, .any, .any, .any, .any, .any, .any, .any, .any, .any, .any, .any, .any, .any, .any, .any, .any, .any, .any, .any, .any, .any, .any, .any, .any, .any, .any, .any, .any, .any, .any, .any, .any, .any, .any, .any, .any, .any, .any, .any, .any, .any, .any, .any, .any, .any, .any, .any, .any, .a (.c (.int .i64 ((N : Int)))), .a (.c (.int .i64 (((i + 1 : Nat) : Nat)))), .any, .any, .any, .any, .any, .any, .any, .any, .any, .any, .any, .any, .any, .any, .any, .any, .any, .any, .any, .any, .any, .any, .any, .any, .any, .any, .any, .any, .any, .any, .any, .any, .any, .any], [[.row (N * 4) (nthC (csL ++ flat (evS ⟨6#8, 0#64, [BitVec.ofNat 64 i], []⟩ ⟨some ((α 2).add (0 + 0)), 1, 1, none, 0, 0⟩)))]], ⟨⟨rfl, rfl, rfl⟩, ?_⟩, rfl, ⟨hRn, (show i + 1 ≤ N by omega)⟩, (show N - (i + 1) < N - i by omega)⟩
            (repeat first | exact trivial | refine ent1 ?_)
            refine ⟨fun j _ => upd_rz (by rw [hRL.len, manyE_len]) hRL.raw rfl (show (i : Int).toNat * 4 + 0 = i * 4 by omega) (fun j hj => ?_) j, ?_⟩
            · have : j = 0 ∨ j = 1 ∨ j = 2 ∨ j = 3 := by omega
              rcases this with rfl | rfl | rfl | rfl
              · (repeat first | exact trivial | refine ent1 ?_)
              · (repeat first | exact trivial | refine ent1 ?_)
              · exact ⟨rfl, trivial⟩
              · (repeat first | exact trivial | refine ent1 ?_)
            (repeat first | exact trivial | refine ent1 ?_)
          · have ki : decide ((i : Int) < (N : Int)) = false := decide_eq_false (by omega)
            (repeat first | (refine And.intro ?_ ?_; first | exact rfl | ((exact fun h => absurd h (by first | decide | (rw [ki]; decide))); intro yy; clear yy) | (rotate_left; (exact fun h => absurd h (by first | decide | (rw [ki]; decide))); intro yy; clear yy) | decide | omega) | (with_reducible refine frc_bytesL (by first | omega | decide) ?_) | (with_reducible refine frc_bytesM (by first | omega | decide) ?_))
            obtain rfl : i = N := by omega
            have hmc : csL.length = i * 4 := by rw [hRL.len, manyE_len]
            have hEv : ∀ (W' : World) (ms' : List Nat) (α : Nat → Addr), Later WL msL W' ms' → (flat [.row (i * 4) (nthC csL)] ≠ [] → ImAt W' ms' (α 1) (((flat [.row (i * 4) (nthC csL)]).map (SC.rz (fun j => memB j [1]) α)).map SC.raw)) → EvsAt W' ms' (some ((α 1).add (0 + 0))) i i (manyE i) := fun W' ms' α hL' hI => by
              refine (hRL.later hL').im (fun h0 => hI (fun e => ?_)) (fun j hj => ?_) (manyE_len i) (Nat.le_refl _) (by omega)
              · have := congrArg List.length e
                simp [flat] at this
                omega
              · rw [List.getElem?_map, List.getElem?_map]
                simp only [flat, List.append_nil, List.getElem?_map, List.getElem?_range (show j < i * 4 by omega), Option.map_some]
                rw [rz_raw (hRL.raw _ (nthC_mem hj))]
            by_cases hNN : i ≤ 2048
            · have kN : decide ((i : Int) ≤ 2048) = true := decide_eq_true (by omega)
              refine call_lend [1] 0 [] rfl rfl (by (repeat first | exact trivial | refine ent1 ?_)) NoP.nil (fun _ _ => trivial) (fun W' ms' α hL' hI => ⟨[.c (.slc (some ((α 1).add (0 + 0))) i i)], ?_, (fn_bencodeE (hEv W' ms' α hL' (hI 1 rfl)) hNN (err := 0) (by rw [enc_of (by rw [manyE_len]; exact hNN) (manyE_good (by omega))])).mono (Res' := fun y hs => ∃ t : Sl, t.Ok ∧ y = .tup [.c (svC 1 t), .c (.int .i64 0)] ∧ hs.drop 1 = [svB t]) (fun x hs hr => ?_)⟩) (fun x hs hr => ?_) ?_
              · (repeat first | exact trivial | refine ent1 ?_)
              · obtain ⟨t, h1, h2, rfl⟩ := hr
                exact ⟨t, h1, h2, rfl⟩
              · obtain ⟨t, _, _, h1⟩ := hr
                rw [h1]
                exact NoP.cons (fun W ms => bts_ne _ _ _ _ _ W ms) NoP.nil
              rintro y hs' ⟨tM, htM, rfl, hdropM⟩
              rw [hdropM]
              (repeat first | (refine And.intro ?_ ?_; first | exact rfl | ((exact fun h => absurd h (by first | decide | (rw [kN]; decide))); intro yy; clear yy) | (rotate_left; (exact fun h => absurd h (by first | decide | (rw [kN]; decide))); intro yy; clear yy) | decide | omega) | (with_reducible refine frc_bytesL (by first | omega | decide) ?_) | (with_reducible refine frc_bytesM (by first | omega | decide) ?_))
              refine ⟨.a (.c (.bool true)), [[.past WL msL]], ⟨[0], ⟨rfl, rfl, rfl⟩, ?_⟩, rfl⟩
              (repeat first | exact trivial | refine ent1 ?_)
              done
            · have kN : decide ((i : Int) ≤ 2048) = false := decide_eq_false (by omega)
              refine call_lend [1] 0 [] rfl rfl (by (repeat first | exact trivial | refine ent1 ?_)) NoP.nil (fun _ _ => trivial) (fun W' ms' α hL' hI => ⟨[.c (.slc (some ((α 1).add (0 + 0))) i i)], ?_, (fn_bencode (hEv W' ms' α hL' (hI 1 rfl))).mono (Res' := fun y hs => y = .tup [.c (.slc none 0 0), .c (.int .i64 7)] ∧ hs.drop 1 = []) (fun x hs hr => ?_)⟩) (fun x hs hr => ?_) ?_
              · (repeat first | exact trivial | refine ent1 ?_)
              · obtain ⟨h1, h2⟩ := hr.1 (by omega)
                exact ⟨h1, by rw [h2]; rfl⟩
              · rw [hr.2]; exact NoP.nil
              rintro y hs' ⟨rfl, hdropM⟩
              rw [hdropM]
              (repeat first | (refine And.intro ?_ ?_; first | exact rfl | ((exact fun h => absurd h (by first | decide | (rw [kN]; decide))); intro yy; clear yy) | (rotate_left; (exact fun h => absurd h (by first | decide | (rw [kN]; decide))); intro yy; clear yy) | decide | omega) | (with_reducible refine frc_bytesL (by first | omega | decide) ?_) | (with_reducible refine frc_bytesM (by first | omega | decide) ?_))
              refine ⟨.a (.c (.bool true)), [[.past WL msL]], ⟨[0], ⟨rfl, rfl, rfl⟩, ?_⟩, rfl⟩
              (repeat first | exact trivial | refine ent1 ?_)
              done
  · have k1 : decide (checkM e ≠ 0) = true := decide_eq_true hce
    (repeat first | (refine And.intro ?_ ?_; first | exact rfl | ((exact fun h => absurd h (by first | decide | (rw [k1]; decide))); intro yy; clear yy) | (rotate_left; (exact fun h => absurd h (by first | decide | (rw [k1]; decide))); intro yy; clear yy) | decide | omega) | (with_reducible refine frc_bytesL (by first | omega | decide) ?_) | (with_reducible refine frc_bytesM (by first | omega | decide) ?_))
    refine call_past (fn_with hrow hrz (by omega) hx1 k hkn) 0 [3, 4] rfl rfl (by (repeat first | exact trivial | refine ent1 ?_)) (by (repeat first | exact trivial | refine ent1 ?_)) (fun _ _ => trivial) (fun x hs hr => ?_) ?_
    · obtain ⟨a', c', W', ms', h1, _, _, rfl⟩ := hr
      exact ⟨W', ms', rfl, h1⟩
    rintro y hs' ⟨aA, cA, WA, msA, hLA, hEA, rfl, rfl⟩
    (repeat first | (refine And.intro ?_ ?_; first | exact rfl | ((exact fun h => absurd h (by first | decide)); intro yy; clear yy) | (rotate_left; (exact fun h => absurd h (by first | decide)); intro yy; clear yy) | decide | omega) | (with_reducible refine frc_bytesL (by first | omega | decide) ?_) | (with_reducible refine frc_bytesM (by first | omega | decide) ?_))
    refine call_same (fn_bencodeE hEA (by omega) (err := checkM e) (by rw [enc_bad (by rw [List.length_take, List.length_drop]; omega) (hg0.1.take k) (fun z hz => hg0.2 z (List.mem_of_mem_take hz)) hce])) [0] rfl (by (repeat first | exact trivial | refine ent1 ?_)) (by (repeat first | exact trivial | refine ent1 ?_)) (fun _ _ => trivial) ?_
    rintro y hs' ⟨tA, htA, rfl, rfl⟩

    have e1 : decide (checkM e ≠ checkM e) = false := decide_eq_false fun h => h rfl
    (repeat first | (refine And.intro ?_ ?_; first | exact rfl | ((exact fun h => absurd h (by first | decide | (rw [k1]; decide) | (rw [e1]; decide))); intro yy; clear yy) | (rotate_left; (exact fun h => absurd h (by first | decide | (rw [k1]; decide) | (rw [e1]; decide))); intro yy; clear yy) | decide | omega) | (with_reducible refine frc_bytesL (by first | omega | decide) ?_) | (with_reducible refine frc_bytesM (by first | omega | decide) ?_))
    have hrowA := hrow.later hLA
    by_cases h2 : k < n
    · have k2 : decide ((k : Int) < (n : Int)) = true := decide_eq_true (by omega)
      cases haR : aR with
      | none => have := hrowA.nil haR; have := hrowA.le; omega
      | some A =>
      subst haR
      obtain ⟨z, hz⟩ : ∃ z, row[k]? = some z := ⟨_, List.getElem?_eq_getElem (by omega)⟩
      obtain ⟨zx, him, hza⟩ := hrowA.elt A rfl k z hz
      (repeat first | (refine And.intro ?_ ?_; first | exact rfl | ((exact fun h => absurd h (by first | decide | (rw [k2]; decide))); intro yy; clear yy) | (rotate_left; (exact fun h => absurd h (by first | decide | (rw [k2]; decide))); intro yy; clear yy) | decide | omega) | (with_reducible refine frc_bytesL (by first | omega | decide) ?_) | (with_reducible refine frc_bytesM (by first | omega | decide) ?_))
      refine loadR (i := 0) rfl him (j := 1) (y := .w64 z.t) rfl ?_
      (repeat first | (refine And.intro ?_ ?_; first | exact rfl | ((exact fun h => absurd h (by first | decide)); intro yy; clear yy) | (rotate_left; (exact fun h => absurd h (by first | decide)); intro yy; clear yy) | decide | omega) | (with_reducible refine frc_bytesL (by first | omega | decide) ?_) | (with_reducible refine frc_bytesM (by first | omega | decide) ?_))
      refine call_past (fn_with hrowA hrz (by omega) (show EvAt WA msA ⟨none, 0, 0, none, 0, 0⟩ ⟨19#8, z.t, [], []⟩ from ⟨SlAt.nul, SlAt.nul⟩) k hkn) 0 [3, 4] rfl rfl (by (repeat first | exact trivial | refine ent1 ?_)) (by (repeat first | exact trivial | refine ent1 ?_)) (fun _ _ => trivial) (fun x hs hr => ?_) ?_
      · obtain ⟨a', c', W', ms', h1, _, _, rfl⟩ := hr
        exact ⟨W', ms', rfl, h1⟩
      rintro y hs' ⟨aC, cC, WC, msC, hLC, hEC, rfl, rfl⟩
      (repeat first | (refine And.intro ?_ ?_; first | exact rfl | ((exact fun h => absurd h (by first | decide)); intro yy; clear yy) | (rotate_left; (exact fun h => absurd h (by first | decide)); intro yy; clear yy) | decide | omega) | (with_reducible refine frc_bytesL (by first | omega | decide) ?_) | (with_reducible refine frc_bytesM (by first | omega | decide) ?_))
      refine call_same (fn_bencodeE hEC (by omega) (err := 10) (by rw [enc_cut (by rw [List.length_take, List.length_drop]; omega) (hg0.1.take k) (fun z hz => hg0.2 z (List.mem_of_mem_take hz)) (hg0.1.hi hz) (lastT_le hg0.1 hz) (by rw [← List.length_pos_iff, List.length_drop]; omega)])) [0] rfl (by (repeat first | exact trivial | refine ent1 ?_)) (by (repeat first | exact trivial | refine ent1 ?_)) (fun _ _ => trivial) ?_
      rintro y hs' ⟨tC, htC, rfl, rfl⟩
      have e10 : decide ((10 : Int) ≠ 10) = false := by decide
      (repeat first | (refine And.intro ?_ ?_; first | exact rfl | ((exact fun h => absurd h (by first | decide | (rw [e10]; decide))); intro yy; clear yy) | (rotate_left; (exact fun h => absurd h (by first | decide | (rw [e10]; decide))); intro yy; clear yy) | decide | omega) | (with_reducible refine frc_bytesL (by first | omega | decide) ?_) | (with_reducible refine frc_bytesM (by first | omega | decide) ?_))
      have hrowC := hrowA.later hLC
      rcases Nat.eq_zero_or_pos k with hk0 | hk0
      · have k3 : decide ((0 : Int) < (k : Int)) = false := decide_eq_false (by omega)
        (repeat first | (refine And.intro ?_ ?_; first | exact rfl | ((exact fun h => absurd h (by first | decide | (rw [k3]; decide))); intro yy; clear yy) | (rotate_left; (exact fun h => absurd h (by first | decide | (rw [k3]; decide))); intro yy; clear yy) | decide | omega) | (with_reducible refine frc_bytesL (by first | omega | decide) ?_) | (with_reducible refine frc_bytesM (by first | omega | decide) ?_))
        obtain ⟨N, hN⟩ : ∃ N, 2044 + (at_ % 10#8).toNat = N := ⟨_, rfl⟩
        have hN2 : N < 2054 := by have : (at_ % 10#8).toNat < 10 := (by rw [BitVec.toNat_umod]; exact Nat.mod_lt _ (by decide)); omega
        (repeat first | (refine And.intro ?_ ?_; first | exact rfl | ((exact fun h => absurd h (by first | decide)); intro yy; clear yy) | (rotate_left; (exact fun h => absurd h (by first | decide)); intro yy; clear yy) | decide | omega) | (with_reducible refine frc_bytesL (by first | omega | decide) ?_) | (with_reducible refine frc_bytesM (by first | omega | decide) ?_))
        refine And.intro (show (0 : Int) ≤ 2044 + ((at_ % 10#8).toNat : Int) ∧ 2044 + ((at_ % 10#8).toNat : Int) ≤ 2044 + ((at_ % 10#8).toNat : Int) ∧ (2044 + ((at_ % 10#8).toNat : Int)) * 64 ≤ 140737488355328 ∧ 2044 + ((at_ % 10#8).toNat : Int) ≤ 9223372036854775807 by omega) ?_
        refine frcN_of (show (2044 + ((at_ % 10#8).toNat : Int)).toNat = N by omega) ?_
        refine frcN_of (show (2044 + ((at_ % 10#8).toNat : Int)).toNat = N by omega) ?_
        refine .inr ⟨0, World × List Nat × List SC × Nat, fun x => ⟨[.any, .any, .any, .any, .any, .any, .any, .any, .any, .any, .any, .any, .any, .any, .any, .any, .any, .any, .any, .a (.c (.sl 1 0 0 N N)), .any, .any, .any, .any, .any, .any, .any, .any, .any, .any, .any, .any, .any, .any, .any, .any, .any, .any, .any, .any, .any, .any, .any, .any, .any, .any, .any, .any, .any, .any, .any, .any, .any, .any, .any, .any, .any, .any, .any, .any, .any, .any, .any, .any, .any, .any, .any, .any, .any, .any, .any, .any, .any, .any, .any, .any, .any, .any, .any, .any, .any, .any, .any, .any, .any, .any, .any, .any, .any, .any, .any, .any, .any, .any, .any, .any, .any, .any, .any, .any, .any, .any, .any, .any, .any, .any, .any, .any, .any, .any, .a (.c (.int .i64 ((N : Int)))), .a (.c (.int .i64 ((x.2.2.2 : Nat)))), .any, .any, .any, .any, .any, .any, .any, .any, .any, .any, .any, .any, .any, .any, .any, .any, .any, .any, .any, .any, .any, .any, .any, .any, .any, .any, .any, .any, .any, .any, .any, .any, .any, .any], [[.past x.1 x.2.1], [.row (N * 4) (nthC x.2.2.1)]]⟩, fun x => RowAt x.1 x.2.1 x.2.2.1 (manyE x.2.2.2) ∧ x.2.2.2 ≤ N, fun x => N - x.2.2.2, entW_of ⟨(WC, msC, [], 0), [0, 7], ⟨⟨rfl, rfl, rfl⟩, ?_⟩, RowAt.nil, Nat.zero_le _⟩, fun x => ?_⟩
        · (repeat first | exact trivial | refine ent1 ?_)
        obtain ⟨WL, msL, csL, i⟩ := x
        rintro ⟨hRL, hiN⟩
        dsimp only at hRL hiN ⊢
        by_cases hi : i < N
        · have ki : decide ((i : Int) < (N : Int)) = true := decide_eq_true (by omega)
          (repeat first | (refine And.intro ?_ ?_; first | exact rfl | ((exact fun h => absurd h (by first | decide | (rw [ki]; decide))); intro yy; clear yy) | (rotate_left; (exact fun h => absurd h (by first | decide | (rw [ki]; decide))); intro yy; clear yy) | decide | omega) | (with_reducible refine frc_bytesL (by first | omega | decide) ?_) | (with_reducible refine frc_bytesM (by first | omega | decide) ?_))
          refine And.intro (show ((i : Int).toNat * 4 + 0) + 4 ≤ N * 4 by omega) ?_
          (repeat first | (refine And.intro ?_ ?_; first | exact rfl | ((exact fun h => absurd h (by first | decide | (rw [ki]; decide))); intro yy; clear yy) | (rotate_left; (exact fun h => absurd h (by first | decide | (rw [ki]; decide))); intro yy; clear yy) | decide | omega) | (with_reducible refine frc_bytesL (by first | omega | decide) ?_) | (with_reducible refine frc_bytesM (by first | omega | decide) ?_))
          refine entW_frz [0, 1] rfl Nat.zero_lt_one cx0_m rfl (fun W' ms' α hL hI => ?_)
          have h2 : ImAt W' ms' (α 2) [.w64 (BitVec.ofInt 64 (i : Int))] := hI 2 rfl (by show flat [Seg.row 1 _] ≠ []; simp [flat])
          have hev : EvAt W' ms' ⟨some ((α 2).add (0 + 0)), 1, 1, none, 0, 0⟩ ⟨6#8, 0#64, [BitVec.ofNat 64 i], []⟩ :=
            ⟨⟨rfl, Nat.le_refl _, (show (1 : Nat) ≤ 9223372036854775807 by decide), (fun e => by cases e), fun x e _ => by injection e with e; subst e; rw [← BitVec.ofInt_natCast]; exact h2.part (0 + 0) (fun j x hx => by simpa using hx)⟩, SlAt.nul⟩
          have hRn : RowAt W' ms' (csL ++ flat (evS ⟨6#8, 0#64, [BitVec.ofNat 64 i], []⟩ ⟨some ((α 2).add (0 + 0)), 1, 1, none, 0, 0⟩)) (manyE (i + 1)) := by
            rw [manyE_succ]; exact (hRL.later hL).snoc hev
          refine ⟨(W', ms', csL ++ flat (evS ⟨6#8, 0#64, [BitVec.ofNat 64 i], []⟩ ⟨some ((α 2).add (0 + 0)), 1, 1, none, 0, 0⟩), i + 1), [.any, .any, .any, .any, .any, .any, .any, .any, .any, .any, .any, .any, .any, .any, .any, .any, .any, .any, .any, .a (.c (.sl 1 0 0 N N)), .any, .any, .any, .any, .any, .any, .any, .any, .any, .any, .any, .any, .any, .any, .any, .any, .any, .any, .any, .any, .any, .any, .any, .any, .any, .any, .any, .any, .any, .any, .any, .any, .any, .any, .any, .any, .any, .any, .any, .any, .any, .any, .any, .any, .any, .any, .any, .any, .any, .any, .any, .any, .any, .any, .any, .any, .any, .any, .any, .any, .any, .any, .any, .any, .any, .any, .any, .any, .any, .any, .any, .any, .any, .any, .any, .any, .any, .any, .any, .any, .any, .any, .any, .any, .any, .any, .any, .any, .any, .any, .a (.c (.int .i64 ((N : Int)))), .a (.c (.int .i64 (((i + 1 : Nat) : Nat)))), .any, .any, .any, .any, .any, .any, .any, .any, .any, .any, .any, .any, .any, .any, .any, .any, .any, .any, .any, .any, .any, .any, .any, .any, .any, .any, .any, .any, .any, .any, .any, .any, .any, .any], [[.row (N * 4) (nthC (csL ++ flat (evS ⟨6#8, 0#64, [BitVec.ofNat 64 i], []⟩ ⟨some ((α 2).add (0 + 0)), 1, 1, none, 0, 0⟩)))]], ⟨⟨rfl, rfl, rfl⟩, ?_⟩, rfl, ⟨hRn, (show i + 1 ≤ N by omega)⟩, (show N - (i + 1) < N - i by omega)⟩
          (repeat first | exact trivial | refine ent1 ?_)
          refine ⟨fun j _ => upd_rz (by rw [hRL.len, manyE_len]) hRL.raw rfl (show (i : Int).toNat * 4 + 0 = i * 4 by omega) (fun j hj => ?_) j, ?_⟩
          · have : j = 0 ∨ j = 1 ∨ j = 2 ∨ j = 3 := by omega
            rcases this with rfl | rfl | rfl | rfl
            · (repeat first | exact trivial | refine ent1 ?_)
            · (repeat first | exact trivial | refine ent1 ?_)
            · exact ⟨rfl, trivial⟩
            · (repeat first | exact trivial | refine ent1 ?_)
          (repeat first | exact trivial | refine ent1 ?_)
        · have ki : decide ((i : Int) < (N : Int)) = false := decide_eq_false (by omega)
          (repeat first | (refine And.intro ?_ ?_; first | exact rfl | ((exact fun h => absurd h (by first | decide | (rw [ki]; decide))); intro yy; clear yy) | (rotate_left; (exact fun h => absurd h (by first | decide | (rw [ki]; decide))); intro yy; clear yy) | decide | omega) | (with_reducible refine frc_bytesL (by first | omega | decide) ?_) | (with_reducible refine frc_bytesM (by first | omega | decide) ?_))
          obtain rfl : i = N := by omega
          have hmc : csL.length = i * 4 := by rw [hRL.len, manyE_len]
          have hEv : ∀ (W' : World) (ms' : List Nat) (α : Nat → Addr), Later WL msL W' ms' → (flat [.row (i * 4) (nthC csL)] ≠ [] → ImAt W' ms' (α 1) (((flat [.row (i * 4) (nthC csL)]).map (SC.rz (fun j => memB j [1]) α)).map SC.raw)) → EvsAt W' ms' (some ((α 1).add (0 + 0))) i i (manyE i) := fun W' ms' α hL' hI => by
            refine (hRL.later hL').im (fun h0 => hI (fun e => ?_)) (fun j hj => ?_) (manyE_len i) (Nat.le_refl _) (by omega)
            · have := congrArg List.length e
              simp [flat] at this
              omega
            · rw [List.getElem?_map, List.getElem?_map]
              simp only [flat, List.append_nil, List.getElem?_map, List.getElem?_range (show j < i * 4 by omega), Option.map_some]
              rw [rz_raw (hRL.raw _ (nthC_mem hj))]
          by_cases hNN : i ≤ 2048
          · have kN : decide ((i : Int) ≤ 2048) = true := decide_eq_true (by omega)
            refine call_lend [1] 0 [] rfl rfl (by (repeat first | exact trivial | refine ent1 ?_)) NoP.nil (fun _ _ => trivial) (fun W' ms' α hL' hI => ⟨[.c (.slc (some ((α 1).add (0 + 0))) i i)], ?_, (fn_bencodeE (hEv W' ms' α hL' (hI 1 rfl)) hNN (err := 0) (by rw [enc_of (by rw [manyE_len]; exact hNN) (manyE_good (by omega))])).mono (Res' := fun y hs => ∃ t : Sl, t.Ok ∧ y = .tup [.c (svC 1 t), .c (.int .i64 0)] ∧ hs.drop 1 = [svB t]) (fun x hs hr => ?_)⟩) (fun x hs hr => ?_) ?_
            · (repeat first | exact trivial | refine ent1 ?_)
            · obtain ⟨t, h1, h2, rfl⟩ := hr
              exact ⟨t, h1, h2, rfl⟩
            · obtain ⟨t, _, _, h1⟩ := hr
              rw [h1]
              exact NoP.cons (fun W ms => bts_ne _ _ _ _ _ W ms) NoP.nil
            rintro y hs' ⟨tM, htM, rfl, hdropM⟩
            rw [hdropM]
            (repeat first | (refine And.intro ?_ ?_; first | exact rfl | ((exact fun h => absurd h (by first | decide | (rw [kN]; decide))); intro yy; clear yy) | (rotate_left; (exact fun h => absurd h (by first | decide | (rw [kN]; decide))); intro yy; clear yy) | decide | omega) | (with_reducible refine frc_bytesL (by first | omega | decide) ?_) | (with_reducible refine frc_bytesM (by first | omega | decide) ?_))
            refine ⟨.a (.c (.bool true)), [[.past WL msL]], ⟨[0], ⟨rfl, rfl, rfl⟩, ?_⟩, rfl⟩
            (repeat first | exact trivial | refine ent1 ?_)
            done
          · have kN : decide ((i : Int) ≤ 2048) = false := decide_eq_false (by omega)
            refine call_lend [1] 0 [] rfl rfl (by (repeat first | exact trivial | refine ent1 ?_)) NoP.nil (fun _ _ => trivial) (fun W' ms' α hL' hI => ⟨[.c (.slc (some ((α 1).add (0 + 0))) i i)], ?_, (fn_bencode (hEv W' ms' α hL' (hI 1 rfl))).mono (Res' := fun y hs => y = .tup [.c (.slc none 0 0), .c (.int .i64 7)] ∧ hs.drop 1 = []) (fun x hs hr => ?_)⟩) (fun x hs hr => ?_) ?_
            · (repeat first | exact trivial | refine ent1 ?_)
            · obtain ⟨h1, h2⟩ := hr.1 (by omega)
              exact ⟨h1, by rw [h2]; rfl⟩
            · rw [hr.2]; exact NoP.nil
            rintro y hs' ⟨rfl, hdropM⟩
            rw [hdropM]
            (repeat first | (refine And.intro ?_ ?_; first | exact rfl | ((exact fun h => absurd h (by first | decide | (rw [kN]; decide))); intro yy; clear yy) | (rotate_left; (exact fun h => absurd h (by first | decide | (rw [kN]; decide))); intro yy; clear yy) | decide | omega) | (with_reducible refine frc_bytesL (by first | omega | decide) ?_) | (with_reducible refine frc_bytesM (by first | omega | decide) ?_))
            refine ⟨.a (.c (.bool true)), [[.past WL msL]], ⟨[0], ⟨rfl, rfl, rfl⟩, ?_⟩, rfl⟩
            (repeat first | exact trivial | refine ent1 ?_)
            done
      · have k3 : decide ((0 : Int) < (k : Int)) = true := decide_eq_true (by omega)
        obtain ⟨z, hz⟩ : ∃ z, row[k - 1]? = some z := ⟨_, List.getElem?_eq_getElem (by omega)⟩
        obtain ⟨zx, him, hza⟩ := hrowC.elt A rfl (k - 1) z hz
        have him : ImAt WC msC (A.add (((k : Int) - 1).toNat * 4)) (flat (evS z zx)) := by rw [show ((k : Int) - 1).toNat = k - 1 by omega]; exact him
        (repeat first | (refine And.intro ?_ ?_; first | exact rfl | ((exact fun h => absurd h (by first | decide | (rw [k3]; decide))); intro yy; clear yy) | (rotate_left; (exact fun h => absurd h (by first | decide | (rw [k3]; decide))); intro yy; clear yy) | decide | omega) | (with_reducible refine frc_bytesL (by first | omega | decide) ?_) | (with_reducible refine frc_bytesM (by first | omega | decide) ?_))
        refine loadR (i := 0) rfl him (j := 1) (y := .w64 z.t) rfl ?_
        by_cases h4 : 0#64 < z.t
        · have k4 : decide (0#64 < z.t) = true := decide_eq_true h4
          (repeat first | (refine And.intro ?_ ?_; first | exact rfl | ((exact fun h => absurd h (by first | decide | (rw [k3]; decide) | (rw [k4]; decide))); intro yy; clear yy) | (rotate_left; (exact fun h => absurd h (by first | decide | (rw [k3]; decide) | (rw [k4]; decide))); intro yy; clear yy) | decide | omega) | (with_reducible refine frc_bytesL (by first | omega | decide) ?_) | (with_reducible refine frc_bytesM (by first | omega | decide) ?_))
          refine loadR (i := 0) rfl him (j := 1) (y := .w64 z.t) rfl ?_
          (repeat first | (refine And.intro ?_ ?_; first | exact rfl | ((exact fun h => absurd h (by first | decide)); intro yy; clear yy) | (rotate_left; (exact fun h => absurd h (by first | decide)); intro yy; clear yy) | decide | omega) | (with_reducible refine frc_bytesL (by first | omega | decide) ?_) | (with_reducible refine frc_bytesM (by first | omega | decide) ?_))
          obtain ⟨csN, hrN, hiN⟩ := hrowC.row (by omega)
          refine call_same (fn_withN hrN hiN hrowC.len hrowC.le (by omega) (by omega) (z.t - 1#64) k hkn) [0, 3, 4, 7] rfl (by (repeat first | exact trivial | refine ent1 ?_)) (by (repeat first | exact trivial | refine ent1 ?_); refine ⟨fun j _ => eqC_cells (L := [.w64 1#64]) (fun _ _ => rfl) (fun x hx => by simp at hx; subst hx; (repeat first | exact trivial | refine ent1 ?_)) j, ?_⟩; (repeat first | exact trivial | refine ent1 ?_)) (fun _ _ => trivial) ?_
          rintro y hs' ⟨cN, hcN, rfl, rfl⟩
          (repeat first | (refine And.intro ?_ ?_; first | exact rfl | ((exact fun h => absurd h (by first | decide)); intro yy; clear yy) | (rotate_left; (exact fun h => absurd h (by first | decide)); intro yy; clear yy) | decide | omega) | (with_reducible refine frc_bytesL (by first | omega | decide) ?_) | (with_reducible refine frc_bytesM (by first | omega | decide) ?_))
          have henc := enc_time (es := row.take k) (fs := row.drop k) (t := z.t) (by rw [List.length_take, List.length_drop]; omega) (hg0.1.take k) (fun z hz => hg0.2 z (List.mem_of_mem_take hz)) (hg0.1.hi hz) (by rw [BitVec.lt_def] at h4; simpa using h4) (by have := lastT_eq (last := 0#64) hz; rwa [show k - 1 + 1 = k by omega] at this)
          refine call_lend [7, 8] 0 [] rfl rfl (by (repeat first | exact trivial | refine ent1 ?_)) NoP.nil (fun _ _ => trivial) (fun W' ms' α hL' hI => ⟨[.c (.slc (some ((α 8).add (0 + 0))) (n + 1) cN)], ?_, (fn_bencodeE (lendN (F := fun j => memB j [7, 8]) (g := bk 8 [0, 3, 4, 7]) (nb := 7) (nr := 8) hrN hL' rfl rfl hkn hrowC.len hcN (by omega) (hI 7 rfl (by show flat [Seg.row 1 _] ≠ []; simp [flat])) (hI 8 rfl)) (by omega) (err := 21) (by rw [henc])).mono (Res' := fun y hs => ∃ t : Sl, t.Ok ∧ y = .tup [.c (svC 1 t), .c (.int .i64 21)] ∧ hs.drop 1 = [svB t]) (fun x hs hr => ?_)⟩) (fun x hs hr => ?_) ?_
          · (repeat first | exact trivial | refine ent1 ?_)
          · obtain ⟨t, h1, h2, rfl⟩ := hr
            exact ⟨t, h1, h2, rfl⟩
          · obtain ⟨t, _, _, h1⟩ := hr
            rw [h1]
            exact NoP.cons (fun W ms => bts_ne _ _ _ _ _ W ms) NoP.nil
          rintro y hs' ⟨tN, htN, rfl, hdropN⟩
          rw [hdropN]
          have e21 : decide ((21 : Int) ≠ 21) = false := by decide
          (repeat first | (refine And.intro ?_ ?_; first | exact rfl | ((exact fun h => absurd h (by first | decide | (rw [e21]; decide))); intro yy; clear yy) | (rotate_left; (exact fun h => absurd h (by first | decide | (rw [e21]; decide))); intro yy; clear yy) | decide | omega) | (with_reducible refine frc_bytesL (by first | omega | decide) ?_) | (with_reducible refine frc_bytesM (by first | omega | decide) ?_))
          obtain ⟨N, hN⟩ : ∃ N, 2044 + (at_ % 10#8).toNat = N := ⟨_, rfl⟩
          have hN2 : N < 2054 := by have : (at_ % 10#8).toNat < 10 := (by rw [BitVec.toNat_umod]; exact Nat.mod_lt _ (by decide)); omega
          (repeat first | (refine And.intro ?_ ?_; first | exact rfl | ((exact fun h => absurd h (by first | decide)); intro yy; clear yy) | (rotate_left; (exact fun h => absurd h (by first | decide)); intro yy; clear yy) | decide | omega) | (with_reducible refine frc_bytesL (by first | omega | decide) ?_) | (with_reducible refine frc_bytesM (by first | omega | decide) ?_))
          refine And.intro (show (0 : Int) ≤ 2044 + ((at_ % 10#8).toNat : Int) ∧ 2044 + ((at_ % 10#8).toNat : Int) ≤ 2044 + ((at_ % 10#8).toNat : Int) ∧ (2044 + ((at_ % 10#8).toNat : Int)) * 64 ≤ 140737488355328 ∧ 2044 + ((at_ % 10#8).toNat : Int) ≤ 9223372036854775807 by omega) ?_
          refine frcN_of (show (2044 + ((at_ % 10#8).toNat : Int)).toNat = N by omega) ?_
          refine frcN_of (show (2044 + ((at_ % 10#8).toNat : Int)).toNat = N by omega) ?_
          refine .inr ⟨0, World × List Nat × List SC × Nat, fun x => ⟨[.any, .any, .any, .any, .any, .any, .any, .any, .any, .any, .any, .any, .any, .any, .any, .any, .any, .any, .any, .a (.c (.sl 1 0 0 N N)), .any, .any, .any, .any, .any, .any, .any, .any, .any, .any, .any, .any, .any, .any, .any, .any, .any, .any, .any, .any, .any, .any, .any, .any, .any, .any, .any, .any, .any, .any, .any, .any, .any, .any, .any, .any, .any, .any, .any, .any, .any, .any, .any, .any, .any, .any, .any, .any, .any, .any, .any, .any, .any, .any, .any, .any, .any, .any, .any, .any, .any, .any, .any, .any, .any, .any, .any, .any, .any, .any, .any, .any, .any, .any, .any, .any, .any, .any, .any, .any, .any, .any, .any, .any, .any, .any, .any, .any, .any, .any, .a (.c (.int .i64 ((N : Int)))), .a (.c (.int .i64 ((x.2.2.2 : Nat)))), .any, .any, .any, .any, .any, .any, .any, .any, .any, .any, .any, .any, .any, .any, .any, .any, .any, .any, .any, .any, .any, .any, .any, .any, .any, .any, .any, .any, .any, .any, .any, .any, .any, .any], [[.past x.1 x.2.1], [.row (N * 4) (nthC x.2.2.1)]]⟩, fun x => RowAt x.1 x.2.1 x.2.2.1 (manyE x.2.2.2) ∧ x.2.2.2 ≤ N, fun x => N - x.2.2.2, entW_of ⟨(WC, msC, [], 0), [0, 10], ⟨⟨rfl, rfl, rfl⟩, ?_⟩, RowAt.nil, Nat.zero_le _⟩, fun x => ?_⟩
          · (repeat first | exact trivial | refine ent1 ?_)
          obtain ⟨WL, msL, csL, i⟩ := x
          rintro ⟨hRL, hiN⟩
          dsimp only at hRL hiN ⊢
          by_cases hi : i < N
          · have ki : decide ((i : Int) < (N : Int)) = true := decide_eq_true (by omega)
            (repeat first | (refine And.intro ?_ ?_; first | exact rfl | ((exact fun h => absurd h (by first | decide | (rw [ki]; decide))); intro yy; clear yy) | (rotate_left; (exact fun h => absurd h (by first | decide | (rw [ki]; decide))); intro yy; clear yy) | decide | omega) | (with_reducible refine frc_bytesL (by first | omega | decide) ?_) | (with_reducible refine frc_bytesM (by first | omega | decide) ?_))
            refine And.intro (show ((i : Int).toNat * 4 + 0) + 4 ≤ N * 4 by omega) ?_
            (repeat first | (refine And.intro ?_ ?_; first | exact rfl | ((exact fun h => absurd h (by first | decide | (rw [ki]; decide))); intro yy; clear yy) | (rotate_left; (exact fun h => absurd h (by first | decide | (rw [ki]; decide))); intro yy; clear yy) | decide | omega) | (with_reducible refine frc_bytesL (by first | omega | decide) ?_) | (with_reducible refine frc_bytesM (by first | omega | decide) ?_))
            refine entW_frz [0, 1] rfl Nat.zero_lt_one cx0_m rfl (fun W' ms' α hL hI => ?_)
            have h2 : ImAt W' ms' (α 2) [.w64 (BitVec.ofInt 64 (i : Int))] := hI 2 rfl (by show flat [Seg.row 1 _] ≠ []; simp [flat])
            have hev : EvAt W' ms' ⟨some ((α 2).add (0 + 0)), 1, 1, none, 0, 0⟩ ⟨6#8, 0#64, [BitVec.ofNat 64 i], []⟩ :=
              ⟨⟨rfl, Nat.le_refl _, (show (1 : Nat) ≤ 9223372036854775807 by decide), (fun e => by cases e), fun x e _ => by injection e with e; subst e; rw [← BitVec.ofInt_natCast]; exact h2.part (0 + 0) (fun j x hx => by simpa using hx)⟩, SlAt.nul⟩
            have hRn : RowAt W' ms' (csL ++ flat (evS ⟨6#8, 0#64, [BitVec.ofNat 64 i], []⟩ ⟨some ((α 2).add (0 + 0)), 1, 1, none, 0, 0⟩)) (manyE (i + 1)) := by
              rw [manyE_succ]; exact (hRL.later hL).snoc hev
            refine ⟨(W', ms', csL ++ flat (evS ⟨6#8, 0#64, [BitVec.ofNat 64 i], []⟩ ⟨some ((α 2).add (0 + 0)), 1, 1, none, 0, 0⟩), i + 1), [.any, .any, .any, .any, .any, .any, .any, .any, .any, .any, .any, .any, .any, .any, .any, .any, .any, .any, .any, .a (.c (.sl 1 0 0 N N)), .any, .any, .any, .any, .any, .any, .any, .any, .any, .any, .any, .any, .any, .any, .any, .any, .any, .any, .any, .any, .any, .any, .any, .any, .any, .any, .any, .any, .any, .any, .any, .any, .any, .any, .any, .any, .any, .any, .any, .any, .any, .any, .any, .any, .any, .any, .any, .any, .any, .any, .any, .any, .any, .any, .any, .any, .any, .any, .any, .any, .any, .any, .any, .any, .any, .any, .any, .any, .any, .any, .any, .any, .any, .any, .any, .any, .any, .any, .any, .any, .any, .any, .any, .any, .any, .any, .any, .any, .any, .any, .a (.c (.int .i64 ((N : Int)))), .a (.c (.int .i64 (((i + 1 : Nat) : Nat)))), .any, .any, .any, .any, .any, .any, .any, .any, .any, .any, .any, .any, .any, .any, .any, .any, .any, .any, .any, .any, .any, .any, .any, .any, .any, .any, .any, .any, .any, .any, .any, .any, .any, .any], [[.row (N * 4) (nthC (csL ++ flat (evS ⟨6#8, 0#64, [BitVec.ofNat 64 i], []⟩ ⟨some ((α 2).add (0 + 0)), 1, 1, none, 0, 0⟩)))]], ⟨⟨rfl, rfl, rfl⟩, ?_⟩, rfl, ⟨hRn, (show i + 1 ≤ N by omega)⟩, (show N - (i + 1) < N - i by omega)⟩
            (repeat first | exact trivial | refine ent1 ?_)
            refine ⟨fun j _ => upd_rz (by rw [hRL.len, manyE_len]) hRL.raw rfl (show (i : Int).toNat * 4 + 0 = i * 4 by omega) (fun j hj => ?_) j, ?_⟩
            · have : j = 0 ∨ j = 1 ∨ j = 2 ∨ j = 3 := by omega
              rcases this with rfl | rfl | rfl | rfl
              · (repeat first | exact trivial | refine ent1 ?_)
              · (repeat first | exact trivial | refine ent1 ?_)
              · exact ⟨rfl, trivial⟩
              · (repeat first | exact trivial | refine ent1 ?_)
            (repeat first | exact trivial | refine ent1 ?_)
          · have ki : decide ((i : Int) < (N : Int)) = false := decide_eq_false (by omega)
            (repeat first | (refine And.intro ?_ ?_; first | exact rfl | ((exact fun h => absurd h (by first | decide | (rw [ki]; decide))); intro yy; clear yy) | (rotate_left; (exact fun h => absurd h (by first | decide | (rw [ki]; decide))); intro yy; clear yy) | decide | omega) | (with_reducible refine frc_bytesL (by first | omega | decide) ?_) | (with_reducible refine frc_bytesM (by first | omega | decide) ?_))
            obtain rfl : i = N := by omega
            have hmc : csL.length = i * 4 := by rw [hRL.len, manyE_len]
            have hEv : ∀ (W' : World) (ms' : List Nat) (α : Nat → Addr), Later WL msL W' ms' → (flat [.row (i * 4) (nthC csL)] ≠ [] → ImAt W' ms' (α 1) (((flat [.row (i * 4) (nthC csL)]).map (SC.rz (fun j => memB j [1]) α)).map SC.raw)) → EvsAt W' ms' (some ((α 1).add (0 + 0))) i i (manyE i) := fun W' ms' α hL' hI => by
              refine (hRL.later hL').im (fun h0 => hI (fun e => ?_)) (fun j hj => ?_) (manyE_len i) (Nat.le_refl _) (by omega)
              · have := congrArg List.length e
                simp [flat] at this
                omega
              · rw [List.getElem?_map, List.getElem?_map]
                simp only [flat, List.append_nil, List.getElem?_map, List.getElem?_range (show j < i * 4 by omega), Option.map_some]
                rw [rz_raw (hRL.raw _ (nthC_mem hj))]
            by_cases hNN : i ≤ 2048
            · have kN : decide ((i : Int) ≤ 2048) = true := decide_eq_true (by omega)
              refine call_lend [1] 0 [] rfl rfl (by (repeat first | exact trivial | refine ent1 ?_)) NoP.nil (fun _ _ => trivial) (fun W' ms' α hL' hI => ⟨[.c (.slc (some ((α 1).add (0 + 0))) i i)], ?_, (fn_bencodeE (hEv W' ms' α hL' (hI 1 rfl)) hNN (err := 0) (by rw [enc_of (by rw [manyE_len]; exact hNN) (manyE_good (by omega))])).mono (Res' := fun y hs => ∃ t : Sl, t.Ok ∧ y = .tup [.c (svC 1 t), .c (.int .i64 0)] ∧ hs.drop 1 = [svB t]) (fun x hs hr => ?_)⟩) (fun x hs hr => ?_) ?_
              · (repeat first | exact trivial | refine ent1 ?_)
              · obtain ⟨t, h1, h2, rfl⟩ := hr
                exact ⟨t, h1, h2, rfl⟩
              · obtain ⟨t, _, _, h1⟩ := hr
                rw [h1]
                exact NoP.cons (fun W ms => bts_ne _ _ _ _ _ W ms) NoP.nil
              rintro y hs' ⟨tM, htM, rfl, hdropM⟩
              rw [hdropM]
              (repeat first | (refine And.intro ?_ ?_; first | exact rfl | ((exact fun h => absurd h (by first | decide | (rw [kN]; decide))); intro yy; clear yy) | (rotate_left; (exact fun h => absurd h (by first | decide | (rw [kN]; decide))); intro yy; clear yy) | decide | omega) | (with_reducible refine frc_bytesL (by first | omega | decide) ?_) | (with_reducible refine frc_bytesM (by first | omega | decide) ?_))
              refine ⟨.a (.c (.bool true)), [[.past WL msL]], ⟨[0], ⟨rfl, rfl, rfl⟩, ?_⟩, rfl⟩
              (repeat first | exact trivial | refine ent1 ?_)
              done
            · have kN : decide ((i : Int) ≤ 2048) = false := decide_eq_false (by omega)
              refine call_lend [1] 0 [] rfl rfl (by (repeat first | exact trivial | refine ent1 ?_)) NoP.nil (fun _ _ => trivial) (fun W' ms' α hL' hI => ⟨[.c (.slc (some ((α 1).add (0 + 0))) i i)], ?_, (fn_bencode (hEv W' ms' α hL' (hI 1 rfl))).mono (Res' := fun y hs => y = .tup [.c (.slc none 0 0), .c (.int .i64 7)] ∧ hs.drop 1 = []) (fun x hs hr => ?_)⟩) (fun x hs hr => ?_) ?_
              · (repeat first | exact trivial | refine ent1 ?_)
              · obtain ⟨h1, h2⟩ := hr.1 (by omega)
                exact ⟨h1, by rw [h2]; rfl⟩
              · rw [hr.2]; exact NoP.nil
              rintro y hs' ⟨rfl, hdropM⟩
              rw [hdropM]
              (repeat first | (refine And.intro ?_ ?_; first | exact rfl | ((exact fun h => absurd h (by first | decide | (rw [kN]; decide))); intro yy; clear yy) | (rotate_left; (exact fun h => absurd h (by first | decide | (rw [kN]; decide))); intro yy; clear yy) | decide | omega) | (with_reducible refine frc_bytesL (by first | omega | decide) ?_) | (with_reducible refine frc_bytesM (by first | omega | decide) ?_))
              refine ⟨.a (.c (.bool true)), [[.past WL msL]], ⟨[0], ⟨rfl, rfl, rfl⟩, ?_⟩, rfl⟩
              (repeat first | exact trivial | refine ent1 ?_)
              done
        · have k4 : decide (0#64 < z.t) = false := decide_eq_false h4
          (repeat first | (refine And.intro ?_ ?_; first | exact rfl | ((exact fun h => absurd h (by first | decide | (rw [k3]; decide) | (rw [k4]; decide))); intro yy; clear yy) | (rotate_left; (exact fun h => absurd h (by first | decide | (rw [k3]; decide) | (rw [k4]; decide))); intro yy; clear yy) | decide | omega) | (with_reducible refine frc_bytesL (by first | omega | decide) ?_) | (with_reducible refine frc_bytesM (by first | omega | decide) ?_))
          obtain ⟨N, hN⟩ : ∃ N, 2044 + (at_ % 10#8).toNat = N := ⟨_, rfl⟩
          have hN2 : N < 2054 := by have : (at_ % 10#8).toNat < 10 := (by rw [BitVec.toNat_umod]; exact Nat.mod_lt _ (by decide)); omega
          (repeat first | (refine And.intro ?_ ?_; first | exact rfl | ((exact fun h => absurd h (by first | decide)); intro yy; clear yy) | (rotate_left; (exact fun h => absurd h (by first | decide)); intro yy; clear yy) | decide | omega) | (with_reducible refine frc_bytesL (by first | omega | decide) ?_) | (with_reducible refine frc_bytesM (by first | omega | decide) ?_))
          refine And.intro (show (0 : Int) ≤ 2044 + ((at_ % 10#8).toNat : Int) ∧ 2044 + ((at_ % 10#8).toNat : Int) ≤ 2044 + ((at_ % 10#8).toNat : Int) ∧ (2044 + ((at_ % 10#8).toNat : Int)) * 64 ≤ 140737488355328 ∧ 2044 + ((at_ % 10#8).toNat : Int) ≤ 9223372036854775807 by omega) ?_
          refine frcN_of (show (2044 + ((at_ % 10#8).toNat : Int)).toNat = N by omega) ?_
          refine frcN_of (show (2044 + ((at_ % 10#8).toNat : Int)).toNat = N by omega) ?_
          refine .inr ⟨0, World × List Nat × List SC × Nat, fun x => ⟨[.any, .any, .any, .any, .any, .any, .any, .any, .any, .any, .any, .any, .any, .any, .any, .any, .any, .any, .any, .a (.c (.sl 1 0 0 N N)), .any, .any, .any, .any, .any, .any, .any, .any, .any, .any, .any, .any, .any, .any, .any, .any, .any, .any, .any, .any, .any, .any, .any, .any, .any, .any, .any, .any, .any, .any, .any, .any, .any, .any, .any, .any, .any, .any, .any, .any, .any, .any, .any, .any, .any, .any, .any, .any, .any, .any, .any, .any, .any, .any, .any, .any, .any, .any, .any, .any, .any, .any, .any, .any, .any, .any, .any, .any, .any, .any, .any, .any, .any, .any, .any, .any, .any, .any, .any, .any, .any, .any, .any, .any, .any, .any, .any, .any, .any, .any, .a (.c (.int .i64 ((N : Int)))), .a (.c (.int .i64 ((x.2.2.2 : Nat)))), .any, .any, .any, .any, .any, .any, .any, .any, .any, .any, .any, .any, .any, .any, .any, .any, .any, .any, .any, .any, .any, .any, .any, .any, .any, .any, .any, .any, .any, .any, .any, .any, .any, .any], [[.past x.1 x.2.1], [.row (N * 4) (nthC x.2.2.1)]]⟩, fun x => RowAt x.1 x.2.1 x.2.2.1 (manyE x.2.2.2) ∧ x.2.2.2 ≤ N, fun x => N - x.2.2.2, entW_of ⟨(WC, msC, [], 0), [0, 7], ⟨⟨rfl, rfl, rfl⟩, ?_⟩, RowAt.nil, Nat.zero_le _⟩, fun x => ?_⟩
          · (repeat first | exact trivial | refine ent1 ?_)
          obtain ⟨WL, msL, csL, i⟩ := x
          rintro ⟨hRL, hiN⟩
          dsimp only at hRL hiN ⊢
          by_cases hi : i < N
          · have ki : decide ((i : Int) < (N : Int)) = true := decide_eq_true (by omega)
            (repeat first | (refine And.intro ?_ ?_; first | exact rfl | ((exact fun h => absurd h (by first | decide | (rw [ki]; decide))); intro yy; clear yy) | (rotate_left; (exact fun h => absurd h (by first | decide | (rw [ki]; decide))); intro yy; clear yy) | decide | omega) | (with_reducible refine frc_bytesL (by first | omega | decide) ?_) | (with_reducible refine frc_bytesM (by first | omega | decide) ?_))
            refine And.intro (show ((i : Int).toNat * 4 + 0) + 4 ≤ N * 4 by omega) ?_
            (repeat first | (refine And.intro ?_ ?_; first | exact rfl | ((exact fun h => absurd h (by first | decide | (rw [ki]; decide))); intro yy; clear yy) | (rotate_left; (exact fun h => absurd h (by first | decide | (rw [ki]; decide))); intro yy; clear yy) | decide | omega) | (with_reducible refine frc_bytesL (by first | omega | decide) ?_) | (with_reducible refine frc_bytesM (by first | omega | decide) ?_))
            refine entW_frz [0, 1] rfl Nat.zero_lt_one cx0_m rfl (fun W' ms' α hL hI => ?_)
            have h2 : ImAt W' ms' (α 2) [.w64 (BitVec.ofInt 64 (i : Int))] := hI 2 rfl (by show flat [Seg.row 1 _] ≠ []; simp [flat])
            have hev : EvAt W' ms' ⟨some ((α 2).add (0 + 0)), 1, 1, none, 0, 0⟩ ⟨6#8, 0#64, [BitVec.ofNat 64 i], []⟩ :=
              ⟨⟨rfl, Nat.le_refl _, (show (1 : Nat) ≤ 9223372036854775807 by decide), (fun e => by cases e), fun x e _ => by injection e with e; subst e; rw [← BitVec.ofInt_natCast]; exact h2.part (0 + 0) (fun j x hx => by simpa using hx)⟩, SlAt.nul⟩
            have hRn : RowAt W' ms' (csL ++ flat (evS ⟨6#8, 0#64, [BitVec.ofNat 64 i], []⟩ ⟨some ((α 2).add (0 + 0)), 1, 1, none, 0, 0⟩)) (manyE (i + 1)) := by
              rw [manyE_succ]; exact (hRL.later hL).snoc hev
            refine ⟨(W', ms', csL ++ flat (evS ⟨6#8, 0#64, [BitVec.ofNat 64 i], []⟩ ⟨some ((α 2).add (0 + 0)), 1, 1, none, 0, 0⟩), i + 1), [.any, .any, .any, .any, .any, .any, .any, .any, .any, .any, .any, .any, .any, .any, .any, .any, .any, .any, .any, .a (.c (.sl 1 0 0 N N)), .any, .any, .any, .any, .any, .any, .any, .any, .any, .any, .any, .any, .any, .any, .any, .any, .any, .any, .any, .any, .any, .any, .any, .any, .any, .any, .any, .any, .any, .any, .any, .any, .any, .any, .any, .any, .any, .any, .any, .any, .any, .any, .any, .any, .any, .any, .any, .any, .any, .any, .any, .any, .any, .any, .any, .any, .any, .any, .any, .any, .any, .any, .any, .any, .any, .any, .any, .any, .any, .any, .any, .any, .any, .any, .any, .any, .any, .any, .any, .any, .any, .any, .any, .any, .any, .any, .any, .any, .any, .any, .a (.c (.int .i64 ((N : Int)))), .a (.c (.int .i64 (((i + 1 : Nat) : Nat)))), .any, .any, .any, .any, .any, .any, .any, .any, .any, .any, .any, .any, .any, .any, .any, .any, .any, .any, .any, .any, .any, .any, .any, .any, .any, .any, .any, .any, .any, .any, .any, .any, .any, .any], [[.row (N * 4) (nthC (csL ++ flat (evS ⟨6#8, 0#64, [BitVec.ofNat 64 i], []⟩ ⟨some ((α 2).add (0 + 0)), 1, 1, none, 0, 0⟩)))]], ⟨⟨rfl, rfl, rfl⟩, ?_⟩, rfl, ⟨hRn, (show i + 1 ≤ N by omega)⟩, (show N - (i + 1) < N - i by omega)⟩
            (repeat first | exact trivial | refine ent1 ?_)
            refine ⟨fun j _ => upd_rz (by rw [hRL.len, manyE_len]) hRL.raw rfl (show (i : Int).toNat * 4 + 0 = i * 4 by omega) (fun j hj => ?_) j, ?_⟩
            · have : j = 0 ∨ j = 1 ∨ j = 2 ∨ j = 3 := by omega
              rcases this with rfl | rfl | rfl | rfl
              · (repeat first | exact trivial | refine ent1 ?_)
              · (repeat first | exact trivial | refine ent1 ?_)
              · exact ⟨rfl, trivial⟩
              · (repeat first | exact trivial | refine ent1 ?_)
            (repeat first | exact trivial | refine ent1 ?_)
          · have ki : decide ((i : Int) < (N : Int)) = false := decide_eq_false (by omega)
            (repeat first | (refine And.intro ?_ ?_; first | exact rfl | ((exact fun h => absurd h (by first | decide | (rw [ki]; decide))); intro yy; clear yy) | (rotate_left; (exact fun h => absurd h (by first | decide | (rw [ki]; decide))); intro yy; clear yy) | decide | omega) | (with_reducible refine frc_bytesL (by first | omega | decide) ?_) | (with_reducible refine frc_bytesM (by first | omega | decide) ?_))
            obtain rfl : i = N := by omega
            have hmc : csL.length = i * 4 := by rw [hRL.len, manyE_len]
            have hEv : ∀ (W' : World) (ms' : List Nat) (α : Nat → Addr), Later WL msL W' ms' → (flat [.row (i * 4) (nthC csL)] ≠ [] → ImAt W' ms' (α 1) (((flat [.row (i * 4) (nthC csL)]).map (SC.rz (fun j => memB j [1]) α)).map SC.raw)) → EvsAt W' ms' (some ((α 1).add (0 + 0))) i i (manyE i) := fun W' ms' α hL' hI => by
              refine (hRL.later hL').im (fun h0 => hI (fun e => ?_)) (fun j hj => ?_) (manyE_len i) (Nat.le_refl _) (by omega)
              · have := congrArg List.length e
                simp [flat] at this
                omega
              · rw [List.getElem?_map, List.getElem?_map]
                simp only [flat, List.append_nil, List.getElem?_map, List.getElem?_range (show j < i * 4 by omega), Option.map_some]
                rw [rz_raw (hRL.raw _ (nthC_mem hj))]
            by_cases hNN : i ≤ 2048
            · have kN : decide ((i : Int) ≤ 2048) = true := decide_eq_true (by omega)
              refine call_lend [1] 0 [] rfl rfl (by (repeat first | exact trivial | refine ent1 ?_)) NoP.nil (fun _ _ => trivial) (fun W' ms' α hL' hI => ⟨[.c (.slc (some ((α 1).add (0 + 0))) i i)], ?_, (fn_bencodeE (hEv W' ms' α hL' (hI 1 rfl)) hNN (err := 0) (by rw [enc_of (by rw [manyE_len]; exact hNN) (manyE_good (by omega))])).mono (Res' := fun y hs => ∃ t : Sl, t.Ok ∧ y = .tup [.c (svC 1 t), .c (.int .i64 0)] ∧ hs.drop 1 = [svB t]) (fun x hs hr => ?_)⟩) (fun x hs hr => ?_) ?_
              · (repeat first | exact trivial | refine ent1 ?_)
              · obtain ⟨t, h1, h2, rfl⟩ := hr
                exact ⟨t, h1, h2, rfl⟩
              · obtain ⟨t, _, _, h1⟩ := hr
                rw [h1]
                exact NoP.cons (fun W ms => bts_ne _ _ _ _ _ W ms) NoP.nil
              rintro y hs' ⟨tM, htM, rfl, hdropM⟩
              rw [hdropM]
              (repeat first | (refine And.intro ?_ ?_; first | exact rfl | ((exact fun h => absurd h (by first | decide | (rw [kN]; decide))); intro yy; clear yy) | (rotate_left; (exact fun h => absurd h (by first | decide | (rw [kN]; decide))); intro yy; clear yy) | decide | omega) | (with_reducible refine frc_bytesL (by first | omega | decide) ?_) | (with_reducible refine frc_bytesM (by first | omega | decide) ?_))
              refine ⟨.a (.c (.bool true)), [[.past WL msL]], ⟨[0], ⟨rfl, rfl, rfl⟩, ?_⟩, rfl⟩
              (repeat first | exact trivial | refine ent1 ?_)
              done
            · have kN : decide ((i : Int) ≤ 2048) = false := decide_eq_false (by omega)
              refine call_lend [1] 0 [] rfl rfl (by (repeat first | exact trivial | refine ent1 ?_)) NoP.nil (fun _ _ => trivial) (fun W' ms' α hL' hI => ⟨[.c (.slc (some ((α 1).add (0 + 0))) i i)], ?_, (fn_bencode (hEv W' ms' α hL' (hI 1 rfl))).mono (Res' := fun y hs => y = .tup [.c (.slc none 0 0), .c (.int .i64 7)] ∧ hs.drop 1 = []) (fun x hs hr => ?_)⟩) (fun x hs hr => ?_) ?_
              · (repeat first | exact trivial | refine ent1 ?_)
              · obtain ⟨h1, h2⟩ := hr.1 (by omega)
                exact ⟨h1, by rw [h2]; rfl⟩
              · rw [hr.2]; exact NoP.nil
              rintro y hs' ⟨rfl, hdropM⟩
              rw [hdropM]
              (repeat first | (refine And.intro ?_ ?_; first | exact rfl | ((exact fun h => absurd h (by first | decide | (rw [kN]; decide))); intro yy; clear yy) | (rotate_left; (exact fun h => absurd h (by first | decide | (rw [kN]; decide))); intro yy; clear yy) | decide | omega) | (with_reducible refine frc_bytesL (by first | omega | decide) ?_) | (with_reducible refine frc_bytesM (by first | omega | decide) ?_))
              refine ⟨.a (.c (.bool true)), [[.past WL msL]], ⟨[0], ⟨rfl, rfl, rfl⟩, ?_⟩, rfl⟩
              (repeat first | exact trivial | refine ent1 ?_)
              done
    · have k2 : decide ((k : Int) < (n : Int)) = false := decide_eq_false (by omega)
      (repeat first | (refine And.intro ?_ ?_; first | exact rfl | ((exact fun h => absurd h (by first | decide | (rw [k2]; decide))); intro yy; clear yy) | (rotate_left; (exact fun h => absurd h (by first | decide | (rw [k2]; decide))); intro yy; clear yy) | decide | omega) | (with_reducible refine frc_bytesL (by first | omega | decide) ?_) | (with_reducible refine frc_bytesM (by first | omega | decide) ?_))
      rcases Nat.eq_zero_or_pos k with hk0 | hk0
      · have k3 : decide ((0 : Int) < (k : Int)) = false := decide_eq_false (by omega)
        (repeat first | (refine And.intro ?_ ?_; first | exact rfl | ((exact fun h => absurd h (by first | decide | (rw [k3]; decide))); intro yy; clear yy) | (rotate_left; (exact fun h => absurd h (by first | decide | (rw [k3]; decide))); intro yy; clear yy) | decide | omega) | (with_reducible refine frc_bytesL (by first | omega | decide) ?_) | (with_reducible refine frc_bytesM (by first | omega | decide) ?_))
        obtain ⟨N, hN⟩ : ∃ N, 2044 + (at_ % 10#8).toNat = N := ⟨_, rfl⟩
        have hN2 : N < 2054 := by have : (at_ % 10#8).toNat < 10 := (by rw [BitVec.toNat_umod]; exact Nat.mod_lt _ (by decide)); omega
        (repeat first | (refine And.intro ?_ ?_; first | exact rfl | ((exact fun h => absurd h (by first | decide)); intro yy; clear yy) | (rotate_left; (exact fun h => absurd h (by first | decide)); intro yy; clear yy) | decide | omega) | (with_reducible refine frc_bytesL (by first | omega | decide) ?_) | (with_reducible refine frc_bytesM (by first | omega | decide) ?_))
        refine And.intro (show (0 : Int) ≤ 2044 + ((at_ % 10#8).toNat : Int) ∧ 2044 + ((at_ % 10#8).toNat : Int) ≤ 2044 + ((at_ % 10#8).toNat : Int) ∧ (2044 + ((at_ % 10#8).toNat : Int)) * 64 ≤ 140737488355328 ∧ 2044 + ((at_ % 10#8).toNat : Int) ≤ 9223372036854775807 by omega) ?_
        refine frcN_of (show (2044 + ((at_ % 10#8).toNat : Int)).toNat = N by omega) ?_
        refine frcN_of (show (2044 + ((at_ % 10#8).toNat : Int)).toNat = N by omega) ?_
        refine .inr ⟨0, World × List Nat × List SC × Nat, fun x => ⟨[.any, .any, .any, .any, .any, .any, .any, .any, .any, .any, .any, .any, .any, .any, .any, .any, .any, .any, .any, .a (.c (.sl 1 0 0 N N)), .any, .any, .any, .any, .any, .any, .any, .any, .any, .any, .any, .any, .any, .any, .any, .any, .any, .any, .any, .any, .any, .any, .any, .any, .any, .any, .any, .any, .any, .any, .any, .any, .any, .any, .any, .any, .any, .any, .any, .any, .any, .any, .any, .any, .any, .any, .any, .any, .any, .any, .any, .any, .any, .any, .any, .any, .any, .any, .any, .any, .any, .any, .any, .any, .any, .any, .any, .any, .any, .any, .any, .any, .any, .any, .any, .any, .any, .any, .any, .any, .any, .any, .any, .any, .any, .any, .any, .any, .any, .any, .a (.c (.int .i64 ((N : Int)))), .a (.c (.int .i64 ((x.2.2.2 : Nat)))), .any, .any, .any, .any, .any, .any, .any, .any, .any, .any, .any, .any, .any, .any, .any, .any, .any, .any, .any, .any, .any, .any, .any, .any, .any, .any, .any, .any, .any, .any, .any, .any, .any, .any], [[.past x.1 x.2.1], [.row (N * 4) (nthC x.2.2.1)]]⟩, fun x => RowAt x.1 x.2.1 x.2.2.1 (manyE x.2.2.2) ∧ x.2.2.2 ≤ N, fun x => N - x.2.2.2, entW_of ⟨(WA, msA, [], 0), [0, 6], ⟨⟨rfl, rfl, rfl⟩, ?_⟩, RowAt.nil, Nat.zero_le _⟩, fun x => ?_⟩
        · (repeat first | exact trivial | refine ent1 ?_)
        obtain ⟨WL, msL, csL, i⟩ := x
        rintro ⟨hRL, hiN⟩
        dsimp only at hRL hiN ⊢
        by_cases hi : i < N
        · have ki : decide ((i : Int) < (N : Int)) = true := decide_eq_true (by omega)
          (repeat first | (refine And.intro ?_ ?_; first | exact rfl | ((exact fun h => absurd h (by first | decide | (rw [ki]; decide))); intro yy; clear yy) | (rotate_left; (exact fun h => absurd h (by first | decide | (rw [ki]; decide))); intro yy; clear yy) | decide | omega) | (with_reducible refine frc_bytesL (by first | omega | decide) ?_) | (with_reducible refine frc_bytesM (by first | omega | decide) ?_))
          refine And.intro (show ((i : Int).toNat * 4 + 0) + 4 ≤ N * 4 by omega) ?_
          (repeat first | (refine And.intro ?_ ?_; first | exact rfl | ((exact fun h => absurd h (by first | decide | (rw [ki]; decide))); intro yy; clear yy) | (rotate_left; (exact fun h => absurd h (by first | decide | (rw [ki]; decide))); intro yy; clear yy) | decide | omega) | (with_reducible refine frc_bytesL (by first | omega | decide) ?_) | (with_reducible refine frc_bytesM (by first | omega | decide) ?_))
          refine entW_frz [0, 1] rfl Nat.zero_lt_one cx0_m rfl (fun W' ms' α hL hI => ?_)
          have h2 : ImAt W' ms' (α 2) [.w64 (BitVec.ofInt 64 (i : Int))] := hI 2 rfl (by show flat [Seg.row 1 _] ≠ []; simp [flat])
          have hev : EvAt W' ms' ⟨some ((α 2).add (0 + 0)), 1, 1, none, 0, 0⟩ ⟨6#8, 0#64, [BitVec.ofNat 64 i], []⟩ :=
            ⟨⟨rfl, Nat.le_refl _, (show (1 : Nat) ≤ 9223372036854775807 by decide), (fun e => by cases e), fun x e _ => by injection e with e; subst e; rw [← BitVec.ofInt_natCast]; exact h2.part (0 + 0) (fun j x hx => by simpa using hx)⟩, SlAt.nul⟩
          have hRn : RowAt W' ms' (csL ++ flat (evS ⟨6#8, 0#64, [BitVec.ofNat 64 i], []⟩ ⟨some ((α 2).add (0 + 0)), 1, 1, none, 0, 0⟩)) (manyE (i + 1)) := by
            rw [manyE_succ]; exact (hRL.later hL).snoc hev
          refine ⟨(W', ms', csL ++ flat (evS ⟨6#8, 0#64, [BitVec.ofNat 64 i], []⟩ ⟨some ((α 2).add (0 + 0)), 1, 1, none, 0, 0⟩), i + 1), [.any, .any, .any, .any, .any, .any, .any, .any, .any, .any, .any, .any, .any, .any, .any, .any, .any, .any, .any, .a (.c (.sl 1 0 0 N N)), .any, .any, .any, .any, .any, .any, .any, .any, .any, .any, .any, .any, .any, .any, .any, .any, .any, .any, .any, .any, .any, .any, .any, .any, .any, .any, .any, .any, .any, .any, .any, .any, .any, .any, .any, .any, .any, .any, .any, .any, .any, .any, .any, .any, .any, .any, .any, .any, .any, .any, .any, .any, .any, .any, .any, .any, .any, .any, .any, .any, .any, .any, .any, .any, .any, .any, .any, .any, .any, .any, .any, .any, .any, .any, .any, .any, .any, .any, .any, .any, .any, .any, .any, .any, .any, .any, .any, .any, .any, .any, .a (.c (.int .i64 ((N : Int)))), .a (.c (.int .i64 (((i + 1 : Nat) : Nat)))), .any, .any, .any, .any, .any, .any, .any, .any, .any, .any, .any, .any, .any, .any, .any, .any, .any, .any, .any, .any, .any, .any, .any, .any, .any, .any, .any, .any, .any, .any, .any, .any, .any, .any], [[.row (N * 4) (nthC (csL ++ flat (evS ⟨6#8, 0#64, [BitVec.ofNat 64 i], []⟩ ⟨some ((α 2).add (0 + 0)), 1, 1, none, 0, 0⟩)))]], ⟨⟨rfl, rfl, rfl⟩, ?_⟩, rfl, ⟨hRn, (show i + 1 ≤ N by omega)⟩, (show N - (i + 1) < N - i by omega)⟩
          (repeat first | exact trivial | refine ent1 ?_)
          refine ⟨fun j _ => upd_rz (by rw [hRL.len, manyE_len]) hRL.raw rfl (show (i : Int).toNat * 4 + 0 = i * 4 by omega) (fun j hj => ?_) j, ?_⟩
          · have : j = 0 ∨ j = 1 ∨ j = 2 ∨ j = 3 := by omega
            rcases this with rfl | rfl | rfl | rfl
            · (repeat first | exact trivial | refine ent1 ?_)
            · (repeat first | exact trivial | refine ent1 ?_)
            · exact ⟨rfl, trivial⟩
            · (repeat first | exact trivial | refine ent1 ?_)
          (repeat first | exact trivial | refine ent1 ?_)
        · have ki : decide ((i : Int) < (N : Int)) = false := decide_eq_false (by omega)
          (repeat first | (refine And.intro ?_ ?_; first | exact rfl | ((exact fun h => absurd h (by first | decide | (rw [ki]; decide))); intro yy; clear yy) | (rotate_left; (exact fun h => absurd h (by first | decide | (rw [ki]; decide))); intro yy; clear yy) | decide | omega) | (with_reducible refine frc_bytesL (by first | omega | decide) ?_) | (with_reducible refine frc_bytesM (by first | omega | decide) ?_))
          obtain rfl : i = N := by omega
          have hmc : csL.length = i * 4 := by rw [hRL.len, manyE_len]
          have hEv : ∀ (W' : World) (ms' : List Nat) (α : Nat → Addr), Later WL msL W' ms' → (flat [.row (i * 4) (nthC csL)] ≠ [] → ImAt W' ms' (α 1) (((flat [.row (i * 4) (nthC csL)]).map (SC.rz (fun j => memB j [1]) α)).map SC.raw)) → EvsAt W' ms' (some ((α 1).add (0 + 0))) i i (manyE i) := fun W' ms' α hL' hI => by
            refine (hRL.later hL').im (fun h0 => hI (fun e => ?_)) (fun j hj => ?_) (manyE_len i) (Nat.le_refl _) (by omega)
            · have := congrArg List.length e
              simp [flat] at this
              omega
            · rw [List.getElem?_map, List.getElem?_map]
              simp only [flat, List.append_nil, List.getElem?_map, List.getElem?_range (show j < i * 4 by omega), Option.map_some]
              rw [rz_raw (hRL.raw _ (nthC_mem hj))]
          by_cases hNN : i ≤ 2048
          · have kN : decide ((i : Int) ≤ 2048) = true := decide_eq_true (by omega)
            refine call_lend [1] 0 [] rfl rfl (by (repeat first | exact trivial | refine ent1 ?_)) NoP.nil (fun _ _ => trivial) (fun W' ms' α hL' hI => ⟨[.c (.slc (some ((α 1).add (0 + 0))) i i)], ?_, (fn_bencodeE (hEv W' ms' α hL' (hI 1 rfl)) hNN (err := 0) (by rw [enc_of (by rw [manyE_len]; exact hNN) (manyE_good (by omega))])).mono (Res' := fun y hs => ∃ t : Sl, t.Ok ∧ y = .tup [.c (svC 1 t), .c (.int .i64 0)] ∧ hs.drop 1 = [svB t]) (fun x hs hr => ?_)⟩) (fun x hs hr => ?_) ?_
            · (repeat first | exact trivial | refine ent1 ?_)
            · obtain ⟨t, h1, h2, rfl⟩ := hr
              exact ⟨t, h1, h2, rfl⟩
            · obtain ⟨t, _, _, h1⟩ := hr
              rw [h1]
              exact NoP.cons (fun W ms => bts_ne _ _ _ _ _ W ms) NoP.nil
            rintro y hs' ⟨tM, htM, rfl, hdropM⟩
            rw [hdropM]
            (repeat first | (refine And.intro ?_ ?_; first | exact rfl | ((exact fun h => absurd h (by first | decide | (rw [kN]; decide))); intro yy; clear yy) | (rotate_left; (exact fun h => absurd h (by first | decide | (rw [kN]; decide))); intro yy; clear yy) | decide | omega) | (with_reducible refine frc_bytesL (by first | omega | decide) ?_) | (with_reducible refine frc_bytesM (by first | omega | decide) ?_))
            refine ⟨.a (.c (.bool true)), [[.past WL msL]], ⟨[0], ⟨rfl, rfl, rfl⟩, ?_⟩, rfl⟩
            (repeat first | exact trivial | refine ent1 ?_)
            done
          · have kN : decide ((i : Int) ≤ 2048) = false := decide_eq_false (by omega)
            refine call_lend [1] 0 [] rfl rfl (by (repeat first | exact trivial | refine ent1 ?_)) NoP.nil (fun _ _ => trivial) (fun W' ms' α hL' hI => ⟨[.c (.slc (some ((α 1).add (0 + 0))) i i)], ?_, (fn_bencode (hEv W' ms' α hL' (hI 1 rfl))).mono (Res' := fun y hs => y = .tup [.c (.slc none 0 0), .c (.int .i64 7)] ∧ hs.drop 1 = []) (fun x hs hr => ?_)⟩) (fun x hs hr => ?_) ?_
            · (repeat first | exact trivial | refine ent1 ?_)
            · obtain ⟨h1, h2⟩ := hr.1 (by omega)
              exact ⟨h1, by rw [h2]; rfl⟩
            · rw [hr.2]; exact NoP.nil
            rintro y hs' ⟨rfl, hdropM⟩
            rw [hdropM]
            (repeat first | (refine And.intro ?_ ?_; first | exact rfl | ((exact fun h => absurd h (by first | decide | (rw [kN]; decide))); intro yy; clear yy) | (rotate_left; (exact fun h => absurd h (by first | decide | (rw [kN]; decide))); intro yy; clear yy) | decide | omega) | (with_reducible refine frc_bytesL (by first | omega | decide) ?_) | (with_reducible refine frc_bytesM (by first | omega | decide) ?_))
            refine ⟨.a (.c (.bool true)), [[.past WL msL]], ⟨[0], ⟨rfl, rfl, rfl⟩, ?_⟩, rfl⟩
            (repeat first | exact trivial | refine ent1 ?_)
            done
      · have k3 : decide ((0 : Int) < (k : Int)) = true := decide_eq_true (by omega)
        cases haR : aR with
        | none => have := hrowA.nil haR; have := hrowA.le; omega
        | some A =>
        subst haR
        obtain ⟨z, hz⟩ : ∃ z, row[k - 1]? = some z := ⟨_, List.getElem?_eq_getElem (by omega)⟩
        obtain ⟨zx, him, hza⟩ := hrowA.elt A rfl (k - 1) z hz
        have him : ImAt WA msA (A.add (((k : Int) - 1).toNat * 4)) (flat (evS z zx)) := by rw [show ((k : Int) - 1).toNat = k - 1 by omega]; exact him
        (repeat first | (refine And.intro ?_ ?_; first | exact rfl | ((exact fun h => absurd h (by first | decide | (rw [k3]; decide))); intro yy; clear yy) | (rotate_left; (exact fun h => absurd h (by first | decide | (rw [k3]; decide))); intro yy; clear yy) | decide | omega) | (with_reducible refine frc_bytesL (by first | omega | decide) ?_) | (with_reducible refine frc_bytesM (by first | omega | decide) ?_))
        refine loadR (i := 0) rfl him (j := 1) (y := .w64 z.t) rfl ?_
        by_cases h4 : 0#64 < z.t
        · have k4 : decide (0#64 < z.t) = true := decide_eq_true h4
          (repeat first | (refine And.intro ?_ ?_; first | exact rfl | ((exact fun h => absurd h (by first | decide | (rw [k3]; decide) | (rw [k4]; decide))); intro yy; clear yy) | (rotate_left; (exact fun h => absurd h (by first | decide | (rw [k3]; decide) | (rw [k4]; decide))); intro yy; clear yy) | decide | omega) | (with_reducible refine frc_bytesL (by first | omega | decide) ?_) | (with_reducible refine frc_bytesM (by first | omega | decide) ?_))
          refine loadR (i := 0) rfl him (j := 1) (y := .w64 z.t) rfl ?_
          (repeat first | (refine And.intro ?_ ?_; first | exact rfl | ((exact fun h => absurd h (by first | decide)); intro yy; clear yy) | (rotate_left; (exact fun h => absurd h (by first | decide)); intro yy; clear yy) | decide | omega) | (with_reducible refine frc_bytesL (by first | omega | decide) ?_) | (with_reducible refine frc_bytesM (by first | omega | decide) ?_))
          obtain ⟨csN, hrN, hiN⟩ := hrowA.row (by omega)
          refine call_same (fn_withN hrN hiN hrowA.len hrowA.le (by omega) (by omega) (z.t - 1#64) k hkn) [0, 3, 4, 6] rfl (by (repeat first | exact trivial | refine ent1 ?_)) (by (repeat first | exact trivial | refine ent1 ?_); refine ⟨fun j _ => eqC_cells (L := [.w64 1#64]) (fun _ _ => rfl) (fun x hx => by simp at hx; subst hx; (repeat first | exact trivial | refine ent1 ?_)) j, ?_⟩; (repeat first | exact trivial | refine ent1 ?_)) (fun _ _ => trivial) ?_
          rintro y hs' ⟨cN, hcN, rfl, rfl⟩
          (repeat first | (refine And.intro ?_ ?_; first | exact rfl | ((exact fun h => absurd h (by first | decide)); intro yy; clear yy) | (rotate_left; (exact fun h => absurd h (by first | decide)); intro yy; clear yy) | decide | omega) | (with_reducible refine frc_bytesL (by first | omega | decide) ?_) | (with_reducible refine frc_bytesM (by first | omega | decide) ?_))
          have henc := enc_time (es := row.take k) (fs := row.drop k) (t := z.t) (by rw [List.length_take, List.length_drop]; omega) (hg0.1.take k) (fun z hz => hg0.2 z (List.mem_of_mem_take hz)) (hg0.1.hi hz) (by rw [BitVec.lt_def] at h4; simpa using h4) (by have := lastT_eq (last := 0#64) hz; rwa [show k - 1 + 1 = k by omega] at this)
          refine call_lend [6, 7] 0 [] rfl rfl (by (repeat first | exact trivial | refine ent1 ?_)) NoP.nil (fun _ _ => trivial) (fun W' ms' α hL' hI => ⟨[.c (.slc (some ((α 7).add (0 + 0))) (n + 1) cN)], ?_, (fn_bencodeE (lendN (F := fun j => memB j [6, 7]) (g := bk 7 [0, 3, 4, 6]) (nb := 6) (nr := 7) hrN hL' rfl rfl hkn hrowA.len hcN (by omega) (hI 6 rfl (by show flat [Seg.row 1 _] ≠ []; simp [flat])) (hI 7 rfl)) (by omega) (err := 21) (by rw [henc])).mono (Res' := fun y hs => ∃ t : Sl, t.Ok ∧ y = .tup [.c (svC 1 t), .c (.int .i64 21)] ∧ hs.drop 1 = [svB t]) (fun x hs hr => ?_)⟩) (fun x hs hr => ?_) ?_
          · (repeat first | exact trivial | refine ent1 ?_)
          · obtain ⟨t, h1, h2, rfl⟩ := hr
            exact ⟨t, h1, h2, rfl⟩
          · obtain ⟨t, _, _, h1⟩ := hr
            rw [h1]
            exact NoP.cons (fun W ms => bts_ne _ _ _ _ _ W ms) NoP.nil
          rintro y hs' ⟨tN, htN, rfl, hdropN⟩
          rw [hdropN]
          have e21 : decide ((21 : Int) ≠ 21) = false := by decide
          (repeat first | (refine And.intro ?_ ?_; first | exact rfl | ((exact fun h => absurd h (by first | decide | (rw [e21]; decide))); intro yy; clear yy) | (rotate_left; (exact fun h => absurd h (by first | decide | (rw [e21]; decide))); intro yy; clear yy) | decide | omega) | (with_reducible refine frc_bytesL (by first | omega | decide) ?_) | (with_reducible refine frc_bytesM (by first | omega | decide) ?_))
          obtain ⟨N, hN⟩ : ∃ N, 2044 + (at_ % 10#8).toNat = N := ⟨_, rfl⟩
          have hN2 : N < 2054 := by have : (at_ % 10#8).toNat < 10 := (by rw [BitVec.toNat_umod]; exact Nat.mod_lt _ (by decide)); omega
          (repeat first | (refine And.intro ?_ ?_; first | exact rfl | ((exact fun h => absurd h (by first | decide)); intro yy; clear yy) | (rotate_left; (exact fun h => absurd h (by first | decide)); intro yy; clear yy) | decide | omega) | (with_reducible refine frc_bytesL (by first | omega | decide) ?_) | (with_reducible refine frc_bytesM (by first | omega | decide) ?_))
          refine And.intro (show (0 : Int) ≤ 2044 + ((at_ % 10#8).toNat : Int) ∧ 2044 + ((at_ % 10#8).toNat : Int) ≤ 2044 + ((at_ % 10#8).toNat : Int) ∧ (2044 + ((at_ % 10#8).toNat : Int)) * 64 ≤ 140737488355328 ∧ 2044 + ((at_ % 10#8).toNat : Int) ≤ 9223372036854775807 by omega) ?_
          refine frcN_of (show (2044 + ((at_ % 10#8).toNat : Int)).toNat = N by omega) ?_
          refine frcN_of (show (2044 + ((at_ % 10#8).toNat : Int)).toNat = N by omega) ?_
          refine .inr ⟨0, World × List Nat × List SC × Nat, fun x => ⟨[.any, .any, .any, .any, .any, .any, .any, .any, .any, .any, .any, .any, .any, .any, .any, .any, .any, .any, .any, .a (.c (.sl 1 0 0 N N)), .any, .any, .any, .any, .any, .any, .any, .any, .any, .any, .any, .any, .any, .any, .any, .any, .any, .any, .any, .any, .any, .any, .any, .any, .any, .any, .any, .any, .any, .any, .any, .any, .any, .any, .any, .any, .any, .any, .any, .any, .any, .any, .any, .any, .any, .any, .any, .any, .any, .any, .any, .any, .any, .any, .any, .any, .any, .any, .any, .any, .any, .any, .any, .any, .any, .any, .any, .any, .any, .any, .any, .any, .any, .any, .any, .any, .any, .any, .any, .any, .any, .any, .any, .any, .any, .any, .any, .any, .any, .any, .a (.c (.int .i64 ((N : Int)))), .a (.c (.int .i64 ((x.2.2.2 : Nat)))), .any, .any, .any, .any, .any, .any, .any, .any, .any, .any, .any, .any, .any, .any, .any, .any, .any, .any, .any, .any, .any, .any, .any, .any, .any, .any, .any, .any, .any, .any, .any, .any, .any, .any], [[.past x.1 x.2.1], [.row (N * 4) (nthC x.2.2.1)]]⟩, fun x => RowAt x.1 x.2.1 x.2.2.1 (manyE x.2.2.2) ∧ x.2.2.2 ≤ N, fun x => N - x.2.2.2, entW_of ⟨(WA, msA, [], 0), [0, 9], ⟨⟨rfl, rfl, rfl⟩, ?_⟩, RowAt.nil, Nat.zero_le _⟩, fun x => ?_⟩
          · (repeat first | exact trivial | refine ent1 ?_)
          obtain ⟨WL, msL, csL, i⟩ := x
          rintro ⟨hRL, hiN⟩
          dsimp only at hRL hiN ⊢
          by_cases hi : i < N
          · have ki : decide ((i : Int) < (N : Int)) = true := decide_eq_true (by omega)
            (repeat first | (refine And.intro ?_ ?_; first | exact rfl | ((exact fun h => absurd h (by first | decide | (rw [ki]; decide))); intro yy; clear yy) | (rotate_left; (exact fun h => absurd h (by first | decide | (rw [ki]; decide))); intro yy; clear yy) | decide | omega) | (with_reducible refine frc_bytesL (by first | omega | decide) ?_) | (with_reducible refine frc_bytesM (by first | omega | decide) ?_))
            refine And.intro (show ((i : Int).toNat * 4 + 0) + 4 ≤ N * 4 by omega) ?_
            (repeat first | (refine And.intro ?_ ?_; first | exact rfl | ((exact fun h => absurd h (by first | decide | (rw [ki]; decide))); intro yy; clear yy) | (rotate_left; (exact fun h => absurd h (by first | decide | (rw [ki]; decide))); intro yy; clear yy) | decide | omega) | (with_reducible refine frc_bytesL (by first | omega | decide) ?_) | (with_reducible refine frc_bytesM (by first | omega | decide) ?_))
            refine entW_frz [0, 1] rfl Nat.zero_lt_one cx0_m rfl (fun W' ms' α hL hI => ?_)
            have h2 : ImAt W' ms' (α 2) [.w64 (BitVec.ofInt 64 (i : Int))] := hI 2 rfl (by show flat [Seg.row 1 _] ≠ []; simp [flat])
            have hev : EvAt W' ms' ⟨some ((α 2).add (0 + 0)), 1, 1, none, 0, 0⟩ ⟨6#8, 0#64, [BitVec.ofNat 64 i], []⟩ :=
              ⟨⟨rfl, Nat.le_refl _, (show (1 : Nat) ≤ 9223372036854775807 by decide), (fun e => by cases e), fun x e _ => by injection e with e; subst e; rw [← BitVec.ofInt_natCast]; exact h2.part (0 + 0) (fun j x hx => by simpa using hx)⟩, SlAt.nul⟩
            have hRn : RowAt W' ms' (csL ++ flat (evS ⟨6#8, 0#64, [BitVec.ofNat 64 i], []⟩ ⟨some ((α 2).add (0 + 0)), 1, 1, none, 0, 0⟩)) (manyE (i + 1)) := by
              rw [manyE_succ]; exact (hRL.later hL).snoc hev
            refine ⟨(W', ms', csL ++ flat (evS ⟨6#8, 0#64, [BitVec.ofNat 64 i], []⟩ ⟨some ((α 2).add (0 + 0)), 1, 1, none, 0, 0⟩), i + 1), [.any, .any, .any, .any, .any, .any, .any, .any, .any, .any, .any, .any, .any, .any, .any, .any, .any, .any, .any, .a (.c (.sl 1 0 0 N N)), .any, .any, .any, .any, .any, .any, .any, .any, .any, .any, .any, .any, .any, .any, .any, .any, .any, .any, .any, .any, .any, .any, .any, .any, .any, .any, .any, .any, .any, .any, .any, .any, .any, .any, .any, .any, .any, .any, .any, .any, .any, .any, .any, .any, .any, .any, .any, .any, .any, .any, .any, .any, .any, .any, .any, .any, .any, .any, .any, .any, .any, .any, .any, .any, .any, .any, .any, .any, .any, .any, .any, .any, .any, .any, .any, .any, .any, .any, .any, .any, .any, .any, .any, .any, .any, .any, .any, .any, .any, .any, .a (.c (.int .i64 ((N : Int)))), .a (.c (.int .i64 (((i + 1 : Nat) : Nat)))), .any, .any, .any, .any, .any, .any, .any, .any, .any, .any, .any, .any, .any, .any, .any, .any, .any, .any, .any, .any, .any, .any, .any, .any, .any, .any, .any, .any, .any, .any, .any, .any, .any, .any], [[.row (N * 4) (nthC (csL ++ flat (evS ⟨6#8, 0#64, [BitVec.ofNat 64 i], []⟩ ⟨some ((α 2).add (0 + 0)), 1, 1, none, 0, 0⟩)))]], ⟨⟨rfl, rfl, rfl⟩, ?_⟩, rfl, ⟨hRn, (show i + 1 ≤ N by omega)⟩, (show N - (i + 1) < N - i by omega)⟩
            (repeat first | exact trivial | refine ent1 ?_)
            refine ⟨fun j _ => upd_rz (by rw [hRL.len, manyE_len]) hRL.raw rfl (show (i : Int).toNat * 4 + 0 = i * 4 by omega) (fun j hj => ?_) j, ?_⟩
            · have : j = 0 ∨ j = 1 ∨ j = 2 ∨ j = 3 := by omega
              rcases this with rfl | rfl | rfl | rfl
              · (repeat first | exact trivial | refine ent1 ?_)
              · (repeat first | exact trivial | refine ent1 ?_)
              · exact ⟨rfl, trivial⟩
              · (repeat first | exact trivial | refine ent1 ?_)
            (repeat first | exact trivial | refine ent1 ?_)
          · have ki : decide ((i : Int) < (N : Int)) = false := decide_eq_false (by omega)
            (repeat first | (refine And.intro ?_ ?_; first | exact rfl | ((exact fun h => absurd h (by first | decide | (rw [ki]; decide))); intro yy; clear yy) | (rotate_left; (exact fun h => absurd h (by first | decide | (rw [ki]; decide))); intro yy; clear yy) | decide | omega) | (with_reducible refine frc_bytesL (by first | omega | decide) ?_) | (with_reducible refine frc_bytesM (by first | omega | decide) ?_))
            obtain rfl : i = N := by omega
            have hmc : csL.length = i * 4 := by rw [hRL.len, manyE_len]
            have hEv : ∀ (W' : World) (ms' : List Nat) (α : Nat → Addr), Later WL msL W' ms' → (flat [.row (i * 4) (nthC csL)] ≠ [] → ImAt W' ms' (α 1) (((flat [.row (i * 4) (nthC csL)]).map (SC.rz (fun j => memB j [1]) α)).map SC.raw)) → EvsAt W' ms' (some ((α 1).add (0 + 0))) i i (manyE i) := fun W' ms' α hL' hI => by
              refine (hRL.later hL').im (fun h0 => hI (fun e => ?_)) (fun j hj => ?_) (manyE_len i) (Nat.le_refl _) (by omega)
              · have := congrArg List.length e
                simp [flat] at this
                omega
              · rw [List.getElem?_map, List.getElem?_map]
                simp only [flat, List.append_nil, List.getElem?_map, List.getElem?_range (show j < i * 4 by omega), Option.map_some]
                rw [rz_raw (hRL.raw _ (nthC_mem hj))]
            by_cases hNN : i ≤ 2048
            · have kN : decide ((i : Int) ≤ 2048) = true := decide_eq_true (by omega)
              refine call_lend [1] 0 [] rfl rfl (by (repeat first | exact trivial | refine ent1 ?_)) NoP.nil (fun _ _ => trivial) (fun W' ms' α hL' hI => ⟨[.c (.slc (some ((α 1).add (0 + 0))) i i)], ?_, (fn_bencodeE (hEv W' ms' α hL' (hI 1 rfl)) hNN (err := 0) (by rw [enc_of (by rw [manyE_len]; exact hNN) (manyE_good (by omega))])).mono (Res' := fun y hs => ∃ t : Sl, t.Ok ∧ y = .tup [.c (svC 1 t), .c (.int .i64 0)] ∧ hs.drop 1 = [svB t]) (fun x hs hr => ?_)⟩) (fun x hs hr => ?_) ?_
              · (repeat first | exact trivial | refine ent1 ?_)
              · obtain ⟨t, h1, h2, rfl⟩ := hr
                exact ⟨t, h1, h2, rfl⟩
              · obtain ⟨t, _, _, h1⟩ := hr
                rw [h1]
                exact NoP.cons (fun W ms => bts_ne _ _ _ _ _ W ms) NoP.nil
              rintro y hs' ⟨tM, htM, rfl, hdropM⟩
              rw [hdropM]
              (repeat first | (refine And.intro ?_ ?_; first | exact rfl | ((exact fun h => absurd h (by first | decide | (rw [kN]; decide))); intro yy; clear yy) | (rotate_left; (exact fun h => absurd h (by first | decide | (rw [kN]; decide))); intro yy; clear yy) | decide | omega) | (with_reducible refine frc_bytesL (by first | omega | decide) ?_) | (with_reducible refine frc_bytesM (by first | omega | decide) ?_))
              refine ⟨.a (.c (.bool true)), [[.past WL msL]], ⟨[0], ⟨rfl, rfl, rfl⟩, ?_⟩, rfl⟩
              (repeat first | exact trivial | refine ent1 ?_)
              done
            · have kN : decide ((i : Int) ≤ 2048) = false := decide_eq_false (by omega)
              refine call_lend [1] 0 [] rfl rfl (by (repeat first | exact trivial | refine ent1 ?_)) NoP.nil (fun _ _ => trivial) (fun W' ms' α hL' hI => ⟨[.c (.slc (some ((α 1).add (0 + 0))) i i)], ?_, (fn_bencode (hEv W' ms' α hL' (hI 1 rfl))).mono (Res' := fun y hs => y = .tup [.c (.slc none 0 0), .c (.int .i64 7)] ∧ hs.drop 1 = []) (fun x hs hr => ?_)⟩) (fun x hs hr => ?_) ?_
              · (repeat first | exact trivial | refine ent1 ?_)
              · obtain ⟨h1, h2⟩ := hr.1 (by omega)
                exact ⟨h1, by rw [h2]; rfl⟩
              · rw [hr.2]; exact NoP.nil
              rintro y hs' ⟨rfl, hdropM⟩
              rw [hdropM]
              (repeat first | (refine And.intro ?_ ?_; first | exact rfl | ((exact fun h => absurd h (by first | decide | (rw [kN]; decide))); intro yy; clear yy) | (rotate_left; (exact fun h => absurd h (by first | decide | (rw [kN]; decide))); intro yy; clear yy) | decide | omega) | (with_reducible refine frc_bytesL (by first | omega | decide) ?_) | (with_reducible refine frc_bytesM (by first | omega | decide) ?_))
              refine ⟨.a (.c (.bool true)), [[.past WL msL]], ⟨[0], ⟨rfl, rfl, rfl⟩, ?_⟩, rfl⟩
              (repeat first | exact trivial | refine ent1 ?_)
              done
        · have k4 : decide (0#64 < z.t) = false := decide_eq_false h4
          (repeat first | (refine And.intro ?_ ?_; first | exact rfl | ((exact fun h => absurd h (by first | decide | (rw [k3]; decide) | (rw [k4]; decide))); intro yy; clear yy) | (rotate_left; (exact fun h => absurd h (by first | decide | (rw [k3]; decide) | (rw [k4]; decide))); intro yy; clear yy) | decide | omega) | (with_reducible refine frc_bytesL (by first | omega | decide) ?_) | (with_reducible refine frc_bytesM (by first | omega | decide) ?_))
          obtain ⟨N, hN⟩ : ∃ N, 2044 + (at_ % 10#8).toNat = N := ⟨_, rfl⟩
          have hN2 : N < 2054 := by have : (at_ % 10#8).toNat < 10 := (by rw [BitVec.toNat_umod]; exact Nat.mod_lt _ (by decide)); omega
          (repeat first | (refine And.intro ?_ ?_; first | exact rfl | ((exact fun h => absurd h (by first | decide)); intro yy; clear yy) | (rotate_left; (exact fun h => absurd h (by first | decide)); intro yy; clear yy) | decide | omega) | (with_reducible refine frc_bytesL (by first | omega | decide) ?_) | (with_reducible refine frc_bytesM (by first | omega | decide) ?_))
          refine And.intro (show (0 : Int) ≤ 2044 + ((at_ % 10#8).toNat : Int) ∧ 2044 + ((at_ % 10#8).toNat : Int) ≤ 2044 + ((at_ % 10#8).toNat : Int) ∧ (2044 + ((at_ % 10#8).toNat : Int)) * 64 ≤ 140737488355328 ∧ 2044 + ((at_ % 10#8).toNat : Int) ≤ 9223372036854775807 by omega) ?_
          refine frcN_of (show (2044 + ((at_ % 10#8).toNat : Int)).toNat = N by omega) ?_
          refine frcN_of (show (2044 + ((at_ % 10#8).toNat : Int)).toNat = N by omega) ?_
          refine .inr ⟨0, World × List Nat × List SC × Nat, fun x => ⟨[.any, .any, .any, .any, .any, .any, .any, .any, .any, .any, .any, .any, .any, .any, .any, .any, .any, .any, .any, .a (.c (.sl 1 0 0 N N)), .any, .any, .any, .any, .any, .any, .any, .any, .any, .any, .any, .any, .any, .any, .any, .any, .any, .any, .any, .any, .any, .any, .any, .any, .any, .any, .any, .any, .any, .any, .any, .any, .any, .any, .any, .any, .any, .any, .any, .any, .any, .any, .any, .any, .any, .any, .any, .any, .any, .any, .any, .any, .any, .any, .any, .any, .any, .any, .any, .any, .any, .any, .any, .any, .any, .any, .any, .any, .any, .any, .any, .any, .any, .any, .any, .any, .any, .any, .any, .any, .any, .any, .any, .any, .any, .any, .any, .any, .any, .any, .a (.c (.int .i64 ((N : Int)))), .a (.c (.int .i64 ((x.2.2.2 : Nat)))), .any, .any, .any, .any, .any, .any, .any, .any, .any, .any, .any, .any, .any, .any, .any, .any, .any, .any, .any, .any, .any, .any, .any, .any, .any, .any, .any, .any, .any, .any, .any, .any, .any, .any], [[.past x.1 x.2.1], [.row (N * 4) (nthC x.2.2.1)]]⟩, fun x => RowAt x.1 x.2.1 x.2.2.1 (manyE x.2.2.2) ∧ x.2.2.2 ≤ N, fun x => N - x.2.2.2, entW_of ⟨(WA, msA, [], 0), [0, 6], ⟨⟨rfl, rfl, rfl⟩, ?_⟩, RowAt.nil, Nat.zero_le _⟩, fun x => ?_⟩
          · (repeat first | exact trivial | refine ent1 ?_)
          obtain ⟨WL, msL, csL, i⟩ := x
          rintro ⟨hRL, hiN⟩
          dsimp only at hRL hiN ⊢
          by_cases hi : i < N
          · have ki : decide ((i : Int) < (N : Int)) = true := decide_eq_true (by omega)
            (repeat first | (refine And.intro ?_ ?_; first | exact rfl | ((exact fun h => absurd h (by first | decide | (rw [ki]; decide))); intro yy; clear yy) | (rotate_left; (exact fun h => absurd h (by first | decide | (rw [ki]; decide))); intro yy; clear yy) | decide | omega) | (with_reducible refine frc_bytesL (by first | omega | decide) ?_) | (with_reducible refine frc_bytesM (by first | omega | decide) ?_))
            refine And.intro (show ((i : Int).toNat * 4 + 0) + 4 ≤ N * 4 by omega) ?_
            (repeat first | (refine And.intro ?_ ?_; first | exact rfl | ((exact fun h => absurd h (by first | decide | (rw [ki]; decide))); intro yy; clear yy) | (rotate_left; (exact fun h => absurd h (by first | decide | (rw [ki]; decide))); intro yy; clear yy) | decide | omega) | (with_reducible refine frc_bytesL (by first | omega | decide) ?_) | (with_reducible refine frc_bytesM (by first | omega | decide) ?_))
            refine entW_frz [0, 1] rfl Nat.zero_lt_one cx0_m rfl (fun W' ms' α hL hI => ?_)
            have h2 : ImAt W' ms' (α 2) [.w64 (BitVec.ofInt 64 (i : Int))] := hI 2 rfl (by show flat [Seg.row 1 _] ≠ []; simp [flat])
            have hev : EvAt W' ms' ⟨some ((α 2).add (0 + 0)), 1, 1, none, 0, 0⟩ ⟨6#8, 0#64, [BitVec.ofNat 64 i], []⟩ :=
              ⟨⟨rfl, Nat.le_refl _, (show (1 : Nat) ≤ 9223372036854775807 by decide), (fun e => by cases e), fun x e _ => by injection e with e; subst e; rw [← BitVec.ofInt_natCast]; exact h2.part (0 + 0) (fun j x hx => by simpa using hx)⟩, SlAt.nul⟩
            have hRn : RowAt W' ms' (csL ++ flat (evS ⟨6#8, 0#64, [BitVec.ofNat 64 i], []⟩ ⟨some ((α 2).add (0 + 0)), 1, 1, none, 0, 0⟩)) (manyE (i + 1)) := by
              rw [manyE_succ]; exact (hRL.later hL).snoc hev
            refine ⟨(W', ms', csL ++ flat (evS ⟨6#8, 0#64, [BitVec.ofNat 64 i], []⟩ ⟨some ((α 2).add (0 + 0)), 1, 1, none, 0, 0⟩), i + 1), [.any, .any, .any, .any, .any, .any, .any, .any, .any, .any, .any, .any, .any, .any, .any, .any, .any, .any, .any, .a (.c (.sl 1 0 0 N N)), .any, .any, .any, .any, .any, .any, .any, .any, .any, .any, .any, .any, .any, .any, .any, .any, .any, .any, .any, .any, .any, .any, .any, .any, .any, .any, .any, .any, .any, .any, .any, .any, .any, .any, .any, .any, .any, .any, .any, .any, .any, .any, .any, .any, .any, .any, .any, .any, .any, .any, .any, .any, .any, .any, .any, .any, .any, .any, .any, .any, .any, .any, .any, .any, .any, .any, .any, .any, .any, .any, .any, .any, .any, .any, .any, .any, .any, .any, .any, .any, .any, .any, .any, .any, .any, .any, .any, .any, .any, .any, .a (.c (.int .i64 ((N : Int)))), .a (.c (.int .i64 (((i + 1 : Nat) : Nat)))), .any, .any, .any, .any, .any, .any, .any, .any, .any, .any, .any, .any, .any, .any, .any, .any, .any, .any, .any, .any, .any, .any, .any, .any, .any, .any, .any, .any, .any, .any, .any, .any, .any, .any], [[.row (N * 4) (nthC (csL ++ flat (evS ⟨6#8, 0#64, [BitVec.ofNat 64 i], []⟩ ⟨some ((α 2).add (0 + 0)), 1, 1, none, 0, 0⟩)))]], ⟨⟨rfl, rfl, rfl⟩, ?_⟩, rfl, ⟨hRn, (show i + 1 ≤ N by omega)⟩, (show N - (i + 1) < N - i by omega)⟩
            (repeat first | exact trivial | refine ent1 ?_)
            refine ⟨fun j _ => upd_rz (by rw [hRL.len, manyE_len]) hRL.raw rfl (show (i : Int).toNat * 4 + 0 = i * 4 by omega) (fun j hj => ?_) j, ?_⟩
            · have : j = 0 ∨ j = 1 ∨ j = 2 ∨ j = 3 := by omega
              rcases this with rfl | rfl | rfl | rfl
              · (repeat first | exact trivial | refine ent1 ?_)
              · (repeat first | exact trivial | refine ent1 ?_)
              · exact ⟨rfl, trivial⟩
              · (repeat first | exact trivial | refine ent1 ?_)
            (repeat first | exact trivial | refine ent1 ?_)
          · have ki : decide ((i : Int) < (N : Int)) = false := decide_eq_false (by omega)
            (repeat first | (refine And.intro ?_ ?_; first | exact rfl | ((exact fun h => absurd h (by first | decide | (rw [ki]; decide))); intro yy; clear yy) | (rotate_left; (exact fun h => absurd h (by first | decide | (rw [ki]; decide))); intro yy; clear yy) | decide | omega) | (with_reducible refine frc_bytesL (by first | omega | decide) ?_) | (with_reducible refine frc_bytesM (by first | omega | decide) ?_))
            obtain rfl : i = N := by omega
            have hmc : csL.length = i * 4 := by rw [hRL.len, manyE_len]
            have hEv : ∀ (W' : World) (ms' : List Nat) (α : Nat → Addr), Later WL msL W' ms' → (flat [.row (i * 4) (nthC csL)] ≠ [] → ImAt W' ms' (α 1) (((flat [.row (i * 4) (nthC csL)]).map (SC.rz (fun j => memB j [1]) α)).map SC.raw)) → EvsAt W' ms' (some ((α 1).add (0 + 0))) i i (manyE i) := fun W' ms' α hL' hI => by
              refine (hRL.later hL').im (fun h0 => hI (fun e => ?_)) (fun j hj => ?_) (manyE_len i) (Nat.le_refl _) (by omega)
              · have := congrArg List.length e
                simp [flat] at this
                omega
              · rw [List.getElem?_map, List.getElem?_map]
                simp only [flat, List.append_nil, List.getElem?_map, List.getElem?_range (show j < i * 4 by omega), Option.map_some]
                rw [rz_raw (hRL.raw _ (nthC_mem hj))]
            by_cases hNN : i ≤ 2048
            · have kN : decide ((i : Int) ≤ 2048) = true := decide_eq_true (by omega)
              refine call_lend [1] 0 [] rfl rfl (by (repeat first | exact trivial | refine ent1 ?_)) NoP.nil (fun _ _ => trivial) (fun W' ms' α hL' hI => ⟨[.c (.slc (some ((α 1).add (0 + 0))) i i)], ?_, (fn_bencodeE (hEv W' ms' α hL' (hI 1 rfl)) hNN (err := 0) (by rw [enc_of (by rw [manyE_len]; exact hNN) (manyE_good (by omega))])).mono (Res' := fun y hs => ∃ t : Sl, t.Ok ∧ y = .tup [.c (svC 1 t), .c (.int .i64 0)] ∧ hs.drop 1 = [svB t]) (fun x hs hr => ?_)⟩) (fun x hs hr => ?_) ?_
              · (repeat first | exact trivial | refine ent1 ?_)
              · obtain ⟨t, h1, h2, rfl⟩ := hr
                exact ⟨t, h1, h2, rfl⟩
              · obtain ⟨t, _, _, h1⟩ := hr
                rw [h1]
                exact NoP.cons (fun W ms => bts_ne _ _ _ _ _ W ms) NoP.nil
              rintro y hs' ⟨tM, htM, rfl, hdropM⟩
              rw [hdropM]
              (repeat first | (refine And.intro ?_ ?_; first | exact rfl | ((exact fun h => absurd h (by first | decide | (rw [kN]; decide))); intro yy; clear yy) | (rotate_left; (exact fun h => absurd h (by first | decide | (rw [kN]; decide))); intro yy; clear yy) | decide | omega) | (with_reducible refine frc_bytesL (by first | omega | decide) ?_) | (with_reducible refine frc_bytesM (by first | omega | decide) ?_))
              refine ⟨.a (.c (.bool true)), [[.past WL msL]], ⟨[0], ⟨rfl, rfl, rfl⟩, ?_⟩, rfl⟩
              (repeat first | exact trivial | refine ent1 ?_)
              done
            · have kN : decide ((i : Int) ≤ 2048) = false := decide_eq_false (by omega)
              refine call_lend [1] 0 [] rfl rfl (by (repeat first | exact trivial | refine ent1 ?_)) NoP.nil (fun _ _ => trivial) (fun W' ms' α hL' hI => ⟨[.c (.slc (some ((α 1).add (0 + 0))) i i)], ?_, (fn_bencode (hEv W' ms' α hL' (hI 1 rfl))).mono (Res' := fun y hs => y = .tup [.c (.slc none 0 0), .c (.int .i64 7)] ∧ hs.drop 1 = []) (fun x hs hr => ?_)⟩) (fun x hs hr => ?_) ?_
              · (repeat first | exact trivial | refine ent1 ?_)
              · obtain ⟨h1, h2⟩ := hr.1 (by omega)
                exact ⟨h1, by rw [h2]; rfl⟩
              · rw [hr.2]; exact NoP.nil
              rintro y hs' ⟨rfl, hdropM⟩
              rw [hdropM]
              (repeat first | (refine And.intro ?_ ?_; first | exact rfl | ((exact fun h => absurd h (by first | decide | (rw [kN]; decide))); intro yy; clear yy) | (rotate_left; (exact fun h => absurd h (by first | decide | (rw [kN]; decide))); intro yy; clear yy) | decide | omega) | (with_reducible refine frc_bytesL (by first | omega | decide) ?_) | (with_reducible refine frc_bytesM (by first | omega | decide) ?_))
              refine ⟨.a (.c (.bool true)), [[.past WL msL]], ⟨[0], ⟨rfl, rfl, rfl⟩, ?_⟩, rfl⟩
              (repeat first | exact trivial | refine ent1 ?_)
              done
end Sx
end Go.Proofs.Ytdakmieapdpidaa
end

section
/-
  An event as an argument, opened. No condition.
-/
namespace Go.Proofs.Ytdakmieapdpidaa
set_option linter.unusedVariables false
namespace Sx
open Go.RowKit Go.ChangeShapes Go.WideShapes Sha Vi Ev

structure EvIn (w : World) (e : Ev) (x : EvC) (cs : Array Value) : Prop where
  at_ : EvAt w [] x e
  is : ∀ r : Rho, SA.Is r (.agg (evS e x)) (.agg cs)
variable {H : Type} {enc : TypeId × Value → H} {w : World} {base : Nat} {held : Bool}
set_option maxRecDepth 100000 in
theorem open_evA {rc : Reach} {b0 : Nat} {v : Value} {d : DataW H} {p : List MemPlace} (hval : Value.okWide Try.prog w rc b0 28 v) (h : DataW.Trod enc Try.prog w base (fun _ => true) held 28 v d p) :
    ∃ (e : Ev) (x : EvC) (cs : Array Value), v = .agg cs ∧ EvIn w e x cs := by
  obtain ⟨cs, rfl, hsz⟩ := okWide_struct Try.underlying28 hval
  have hsz : cs.size = 4 := hsz.trans (by kernel_rfl)
  obtain ⟨fuel, hf⟩ := h
  obtain ⟨e, x, hx, hi⟩ := open_ev (cs := cs.toList) (by simpa using hsz) hf
  exact ⟨e, x, cs, rfl, hx, fun ρ => ⟨cs.toList, by simp, hi ρ⟩⟩
end Sx
end Go.Proofs.Ytdakmieapdpidaa
end
