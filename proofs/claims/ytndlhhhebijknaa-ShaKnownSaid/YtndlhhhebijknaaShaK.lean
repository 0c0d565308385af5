/-
  SHA-256: a key's mark of at most three parts, each in a block of its own. No condition.
-/
import Derived.Test.YtndlhhhebijknaaShaT
namespace Go.Proofs.Ytndlhhhebijknaa
set_option linter.unusedVariables false
namespace Sha
def keyL (key : Bs) : Bs := if 64 < key.length then sumL key else key
def padL (x : BitVec 8) (K : Bs) : Bs := tab 64 fun i => L K i ^^^ x
def markL (key m : Bs) : Bs := sumL (padL 0x5c#8 (keyL key) ++ sumL (padL 0x36#8 (keyL key) ++ m))
@[simp] theorem padL_len (x : BitVec 8) (K : Bs) : (padL x K).length = 64 := tab_len _ _
theorem keyL_le (key : Bs) : (keyL key).length ≤ 64 := by
  unfold keyL; split
  · rw [sumL_len]; omega
  · omega
@[simp] theorem markL_len (key m : Bs) : (markL key m).length = 32 := tab_len _ _
theorem L_over {l : Bs} {i : Nat} (h : l.length ≤ i) : L l i = 0#8 := by
  unfold L; rw [List.getD_eq_getElem?_getD, List.getElem?_eq_none h]; rfl
end Sha
namespace Sx
open Sha

theorem len6' {α : Type} : ∀ {l : List α}, l.length = 6 → ∃ a b c d e g, l = [a, b, c, d, e, g]
  | [a, b, c, d, e, g], _ => ⟨a, b, c, d, e, g, rfl⟩
theorem eqC_P123 {q : List Nat} {m : Nat} (hm : m ≤ 3) {z0 z1 z2 : Bool} {o0 o1 o2 n0 n1 n2 c0 c1 c2 i0 : Nat} {j : Nat} :
    eqC (i0 :: 1 :: 2 :: 3 :: q) (partsF m (nthC [.sn z0 1 0 o0 n0 c0, .sn z1 2 0 o1 n1 c1, .sn z2 3 0 o2 n2 c2]) j) (partsF m (nthC [.sn z0 1 0 o0 n0 c0, .sn z1 2 0 o1 n1 c1, .sn z2 3 0 o2 n2 c2]) j) True :=
  eqC_P3 (q := i0 :: 1 :: 2 :: 3 :: q) (a := .sn z0 1 0 o0 n0 c0) (b := .sn z1 2 0 o1 n1 c1) (c := .sn z2 3 0 o2 n2 c2) hm ⟨rfl, rfl, rfl, rfl, trivial⟩ ⟨rfl, rfl, rfl, rfl, trivial⟩ ⟨rfl, rfl, rfl, rfl, trivial⟩
theorem eqC_win8 {q : List Nat} {n : Nat} {b b' : Nat → BitVec 8} (h : ∀ i, i < n → b i = b' i) (j : Nat) : eqC q (SC.w8 (b j)) (winF 0 n b' j) True :=
  eqC_win (f := fun j => SC.w8 (b j)) (fun i hi => congrArg SC.w8 (by rw [Nat.zero_add]; exact h i hi)) j
/-- A copy of a key over noughts. -/
theorem key_row (q : List Nat) (K : Bs) (o m : Nat) (hK : K.length ≤ 64) (hm : m = K.length) (f : Nat → SC) (hf : ∀ i, i < K.length → f (i + o) = .w8 (L K i)) (j : Nat) : updN (fun _ => SC.w8 0#8) 0 m (fun q => f (q + o)) j = .w8 (L K j) := by
  subst hm
  unfold updN
  by_cases hj : j < K.length
  · rw [if_pos ⟨by omega, by omega⟩, Nat.sub_zero]; exact hf j hj
  · rw [if_neg (by omega), L_over (by omega)]
set_option maxHeartbeats 4000000 in
set_option maxRecDepth 20000 in
theorem fn_smark (zk z0 z1 z2 : Bool) (Nk N0 N1 N2 ok o0 o1 o2 ck c0 c1 c2 : Nat) (key l0 l1 l2 : Bs) (cm M m : Nat) (dn : BitVec 32) (f s : Nat → BitVec 32) (hd : dn = 0#32 ∨ dn = 1#32 ∧ f = first ∧ s = steps)
    (hNk : ok + key.length ≤ Nk) (hck : key.length ≤ ck) (hzk : zk = true → key = []) (hN0 : o0 + l0.length ≤ N0) (hc0 : l0.length ≤ c0) (hz0 : z0 = true → l0 = []) (hN1 : o1 + l1.length ≤ N1) (hc1 : l1.length ≤ c1) (hz1 : z1 = true → l1 = []) (hN2 : o2 + l2.length ≤ N2) (hc2 : l2.length ≤ c2) (hz2 : z2 = true → l2 = []) (hm : m ≤ M) (hM : m ≤ 3) :
    FnR Try.prog tds 19 5 [bts zk Nk ok key.length (L key), bts z0 N0 o0 l0.length (L l0), bts z1 N1 o1 l1.length (L l1), bts z2 N2 o2 l2.length (L l2), [.row M (partsF m (nthC [.sn z0 1 0 o0 l0.length c0, .sn z1 2 0 o1 l1.length c1, .sn z2 3 0 o2 l2.length c2]))], shaT dn 0 f s] [.c (.p 5 0 0), .c (.sn zk 0 0 ok key.length ck), .c (.sl 4 0 0 m cm)] (fun _ => True)
      (fun x hs => x = .a (.agg [.row 32 fun i => .w8 (L (markL key (cat (ps3 l0 l1 l2) m)) i)]) ∧ hs = [bts zk Nk ok key.length (L key), bts z0 N0 o0 l0.length (L l0), bts z1 N1 o1 l1.length (L l1), bts z2 N2 o2 l2.length (L l2), [.row M (partsF m (nthC [.sn z0 1 0 o0 l0.length c0, .sn z1 2 0 o1 l1.length c1, .sn z2 3 0 o2 l2.length c2]))], shaT 1 0 first steps]) := by
  refine fn_of_body tds_ok follows_ Try.func19 rfl (t := [.a (.c (.p 5 0 0)), .a (.c (.sn zk 0 0 ok key.length ck)), .a (.c (.sl 4 0 0 m cm)), .any, .any, .any, .any, .any, .any, .any, .any, .any, .any, .any, .any, .any, .any, .any, .any, .any, .any, .any, .any, .any, .any, .any, .any, .any, .any, .any, .any, .any, .any, .any, .any, .any, .any, .any, .any, .any, .any, .any, .any, .any, .any, .any, .any, .any, .any, .any, .any, .any, .any, .any, .any, .any, .any, .any, .any, .any, .any, .any, .any, .any, .any]) rfl (fun w r0 hr _ => ?_)
  obtain ⟨x0, x1, x2, x3, x4, x5, rfl⟩ := len6' hr
  refine ⟨fun h => Bool.noConfusion h, fun _ => ?_⟩
  obtain ⟨ps, hps⟩ : ∃ ps, ps3 l0 l1 l2 = ps := ⟨_, rfl⟩
  rw [hps]
  obtain ⟨K, hK⟩ : ∃ K, keyL key = K := ⟨_, rfl⟩
  have hKl : K.length ≤ 64 := by rw [← hK]; exact keyL_le _
  have hl : ∀ (k : Nat) (l pre : Bs), ps k = l → pushN (pushL d0 (pre ++ cat ps k)) (L l) l.length = pushL d0 (pre ++ cat ps (k + 1)) ∧ BitVec.ofNat 64 (pre ++ cat ps k).length + BitVec.ofNat 64 l.length = BitVec.ofNat 64 (pre ++ cat ps (k + 1)).length := by
    rintro k l pre rfl
    refine ⟨by rw [pushN_L]; simp only [cat]; rw [← List.append_assoc]; exact (pushL_app _ _ _).symm, by simp only [cat, List.length_append, ofNat_add64, Nat.add_assoc]⟩
  by_cases hlen : 64 < key.length
  · obtain rfl : zk = false := by
      cases zk
      · rfl
      · have := hzk rfl; subst this; simp at hlen
    refine ⟨fun _ => ?_, fun h => absurd (of_decide_eq_false h) (by omega)⟩
    (repeat first | refine ⟨by omega, ?_⟩ | refine ⟨by decide, ?_⟩ | refine ⟨idx8 _, ?_⟩ | refine ⟨lt8 (Nat.le_refl _) _, ?_⟩ | refine ⟨rfl, ?_⟩)
    refine call_same (fn_ssum3 false true true Nk 0 0 ok 0 0 ck 0 0 key [] [] 1 1 1 dn f s hd hNk (by decide) (by decide) hck (by decide) (by decide) hzk (fun _ => rfl) (fun _ => rfl) (by decide) (by decide)) [0, 9, 9, 9, 5] rfl (by (repeat first | exact trivial | refine ⟨rfl, ?_⟩ | refine ⟨fun _ _ => ⟨rfl, trivial⟩, ?_⟩ | refine ⟨fun _ _ => trivial, ?_⟩ | refine ⟨by omega, ?_⟩ | refine ⟨fun _ _ => eqC_winS, ?_⟩ | refine ⟨fun _ _ => eqC_winM, ?_⟩ | refine ⟨fun _ _ => eqC_winB, ?_⟩ | refine ⟨fun _ _ => eqC_selfB, ?_⟩ | refine ⟨fun _ _ => eqC_mpB, ?_⟩)) ?_ (fun _ _ => trivial) ?_
    · (repeat first | exact trivial | refine ⟨rfl, ?_⟩ | refine ⟨fun _ _ => ⟨rfl, trivial⟩, ?_⟩ | refine ⟨fun _ _ => trivial, ?_⟩ | refine ⟨by omega, ?_⟩ | refine ⟨fun _ _ => eqC_winS, ?_⟩ | refine ⟨fun _ _ => eqC_winM, ?_⟩ | refine ⟨fun _ _ => eqC_winB, ?_⟩ | refine ⟨fun _ _ => eqC_selfB, ?_⟩ | refine ⟨fun _ _ => eqC_mpB, ?_⟩)
      refine ⟨fun j hj => eqC_parts (fun i hi => ?_) j, ?_⟩
      · obtain rfl : i = 0 := by omega
        exact ⟨rfl, rfl, rfl, rfl, trivial⟩
      · (repeat first | exact trivial | refine ⟨rfl, ?_⟩ | refine ⟨fun _ _ => ⟨rfl, trivial⟩, ?_⟩ | refine ⟨fun _ _ => trivial, ?_⟩ | refine ⟨by omega, ?_⟩ | refine ⟨fun _ _ => eqC_winS, ?_⟩ | refine ⟨fun _ _ => eqC_winM, ?_⟩ | refine ⟨fun _ _ => eqC_winB, ?_⟩ | refine ⟨fun _ _ => eqC_selfB, ?_⟩ | refine ⟨fun _ _ => eqC_mpB, ?_⟩)
    rintro x hs ⟨rfl, rfl⟩
    have hcat : cat (ps3 key [] []) 1 = key := by simp [cat, ps3]
    rw [hcat]
    have hS0 : sumL key = K := by rw [← hK]; unfold keyL; rw [if_pos hlen]
    have hKl2 : K.length = 32 := by rw [← hS0, sumL_len]
    rw [hS0]
    have hrow := key_row [] K 0 32 hKl hKl2.symm (fun i => .w8 (L K i)) (fun i hi => rfl)
    have hd' : (1 : BitVec 32) = 0#32 ∨ (1 : BitVec 32) = 1#32 ∧ first = first ∧ steps = steps := .inr ⟨rfl, rfl, rfl⟩
    (repeat first | refine ⟨by omega, ?_⟩ | refine ⟨by decide, ?_⟩ | refine ⟨idx8 _, ?_⟩ | refine ⟨lt8 (Nat.le_refl _) _, ?_⟩ | refine ⟨rfl, ?_⟩ | refine ⟨by simp only [scale]; omega, ?_⟩)
    refine .inl ⟨Nat, fun k => ⟨[.a (.c (.p 5 0 0)), .any, .a (.c (.sl 4 0 0 m cm)), .any, .any, .any, .a (.c (.p 6 0 0)), .a (.c (.p 7 0 0)), .a (.c (.p 8 0 0)), .any, .any, .any, .any, .any, .any, .any, .any, .any, .any, .any, .any, .any, .any, .any, .any, .any, .any, .any, .any, .any, .any, .any, .a (.c (.int .i64 (↑k))), .any, .any, .any, .any, .any, .any, .any, .any, .any, .any, .any, .any, .any, .any, .any, .any, .any, .any, .any, .any, .any, .any, .any, .any, .any, .any, .any, .any, .any, .any, .any, .any], [bts false Nk ok key.length (L key), bts z0 N0 o0 l0.length (L l0), bts z1 N1 o1 l1.length (L l1), bts z2 N2 o2 l2.length (L l2), [.row M (partsF m (nthC [.sn z0 1 0 o0 l0.length c0, .sn z1 2 0 o1 l1.length c1, .sn z2 3 0 o2 l2.length c2]))], shaT 1 0 first steps, [.row 32 fun _ => .w8 0#8], [.row 64 fun i => .w8 (if i < k then L K i ^^^ 0x36#8 else L K i)], [.row 64 fun i => .w8 (if i < k then L K i ^^^ 0x5c#8 else L K i)]]⟩,
      fun k => k ≤ 64, fun k => 64 - k, ⟨0, [0, 1, 2, 3, 4, 5, 6, 7, 8], ⟨⟨rfl, rfl, rfl⟩, ?_⟩, by omega⟩, fun k hk => ⟨fun h => ?_, fun h => ?_⟩⟩
    · (repeat first | exact trivial | refine ⟨rfl, ?_⟩ | refine ⟨fun _ _ => ⟨rfl, trivial⟩, ?_⟩ | refine ⟨fun _ _ => trivial, ?_⟩ | refine ⟨by omega, ?_⟩ | refine ⟨fun _ _ => eqC_winS, ?_⟩ | refine ⟨fun _ _ => eqC_winM, ?_⟩ | refine ⟨fun _ _ => eqC_winB, ?_⟩ | refine ⟨fun _ _ => eqC_selfB, ?_⟩ | refine ⟨fun _ _ => eqC_mpB, ?_⟩)
      refine eqC_bts (eqC_bts (eqC_bts ⟨rfl, fun j hj => eqC_P123 hM, ?_⟩))
      (repeat first | exact trivial | refine ⟨rfl, ?_⟩ | refine ⟨fun _ _ => ⟨rfl, trivial⟩, ?_⟩ | refine ⟨fun _ _ => trivial, ?_⟩ | refine ⟨by omega, ?_⟩ | refine ⟨fun _ _ => eqC_winS, ?_⟩ | refine ⟨fun _ _ => eqC_winM, ?_⟩ | refine ⟨fun _ _ => eqC_winB, ?_⟩ | refine ⟨fun _ _ => eqC_selfB, ?_⟩ | refine ⟨fun _ _ => eqC_mpB, ?_⟩)
      refine ⟨fun j hj => eqC_w8 ?_, ?_⟩
      · exact hrow j
      · refine ⟨rfl, fun j hj => eqC_w8 ?_, ?_⟩
        · exact hrow j
        · (repeat first | exact trivial | refine ⟨rfl, ?_⟩ | refine ⟨fun _ _ => ⟨rfl, trivial⟩, ?_⟩ | refine ⟨fun _ _ => trivial, ?_⟩ | refine ⟨by omega, ?_⟩ | refine ⟨fun _ _ => eqC_winS, ?_⟩ | refine ⟨fun _ _ => eqC_winM, ?_⟩ | refine ⟨fun _ _ => eqC_winB, ?_⟩ | refine ⟨fun _ _ => eqC_selfB, ?_⟩ | refine ⟨fun _ _ => eqC_mpB, ?_⟩)
    · have hlt : (k : Int) < 64 := of_decide_eq_true h
      (repeat first | refine ⟨by omega, ?_⟩ | refine ⟨by decide, ?_⟩ | refine ⟨idx8 _, ?_⟩ | refine ⟨lt8 (Nat.le_refl _) _, ?_⟩)
      refine ⟨rfl, ?_⟩
      (repeat first | refine ⟨by omega, ?_⟩ | refine ⟨by decide, ?_⟩ | refine ⟨idx8 _, ?_⟩ | refine ⟨lt8 (Nat.le_refl _) _, ?_⟩)
      refine ⟨rfl, ⟨by omega, by omega⟩, k + 1, [0, 1, 2, 3, 4, 5, 6, 7, 8], ⟨⟨rfl, rfl, rfl⟩, ?_⟩, by dsimp only; omega, by dsimp only; omega⟩
      (repeat first | exact trivial | refine ⟨rfl, ?_⟩ | refine ⟨fun _ _ => ⟨rfl, trivial⟩, ?_⟩ | refine ⟨fun _ _ => trivial, ?_⟩ | refine ⟨by omega, ?_⟩ | refine ⟨fun _ _ => eqC_winS, ?_⟩ | refine ⟨fun _ _ => eqC_winM, ?_⟩ | refine ⟨fun _ _ => eqC_winB, ?_⟩ | refine ⟨fun _ _ => eqC_selfB, ?_⟩ | refine ⟨fun _ _ => eqC_mpB, ?_⟩)
      refine eqC_bts (eqC_bts (eqC_bts ⟨rfl, fun j hj => eqC_P123 hM, ?_⟩))
      (repeat first | exact trivial | refine ⟨rfl, ?_⟩ | refine ⟨fun _ _ => ⟨rfl, trivial⟩, ?_⟩ | refine ⟨fun _ _ => trivial, ?_⟩ | refine ⟨by omega, ?_⟩ | refine ⟨fun _ _ => eqC_winS, ?_⟩ | refine ⟨fun _ _ => eqC_winM, ?_⟩ | refine ⟨fun _ _ => eqC_winB, ?_⟩ | refine ⟨fun _ _ => eqC_selfB, ?_⟩ | refine ⟨fun _ _ => eqC_mpB, ?_⟩)
      have e0 : (k : Int).toNat + 0 = k := by omega
      rw [e0]
      have hx : ∀ (x : BitVec 8) (j : Nat), eqC [0, 1, 2, 3, 4, 5, 6, 7, 8] (upd (fun i => SC.w8 (if i < k then L K i ^^^ x else L K i)) k (.w8 ((if k < k then L K k ^^^ x else L K k) ^^^ x)) j) (.w8 (if j < k + 1 then L K j ^^^ x else L K j)) True := fun x j => by
        unfold upd
        by_cases hj : j = k
        · rw [if_pos hj, if_neg (Nat.lt_irrefl k), hj, if_pos (by omega)]; exact ⟨rfl, trivial⟩
        · have : j < k + 1 ↔ j < k := by omega
          rw [if_neg hj]; simp only [this]; exact ⟨rfl, trivial⟩
      exact ⟨fun j hj => hx _ j, rfl, fun j hj => hx _ j, by (repeat first | exact trivial | refine ⟨rfl, ?_⟩ | refine ⟨fun _ _ => ⟨rfl, trivial⟩, ?_⟩ | refine ⟨fun _ _ => trivial, ?_⟩ | refine ⟨by omega, ?_⟩ | refine ⟨fun _ _ => eqC_winS, ?_⟩ | refine ⟨fun _ _ => eqC_winM, ?_⟩ | refine ⟨fun _ _ => eqC_winB, ?_⟩ | refine ⟨fun _ _ => eqC_selfB, ?_⟩ | refine ⟨fun _ _ => eqC_mpB, ?_⟩)⟩
    · obtain rfl : k = 64 := by have : ¬ (k : Int) < 64 := of_decide_eq_false h; have hk : k ≤ 64 := hk; omega
      refine ⟨by kernel_rfl, call_same (fn_begin 1 first steps hd') [5] rfl (by (repeat first | exact trivial | refine ⟨rfl, ?_⟩ | refine ⟨fun _ _ => ⟨rfl, trivial⟩, ?_⟩ | refine ⟨fun _ _ => trivial, ?_⟩ | refine ⟨by omega, ?_⟩ | refine ⟨fun _ _ => eqC_winS, ?_⟩ | refine ⟨fun _ _ => eqC_winM, ?_⟩ | refine ⟨fun _ _ => eqC_winB, ?_⟩ | refine ⟨fun _ _ => eqC_selfB, ?_⟩ | refine ⟨fun _ _ => eqC_mpB, ?_⟩)) (by (repeat first | exact trivial | refine ⟨rfl, ?_⟩ | refine ⟨fun _ _ => ⟨rfl, trivial⟩, ?_⟩ | refine ⟨fun _ _ => trivial, ?_⟩ | refine ⟨by omega, ?_⟩ | refine ⟨fun _ _ => eqC_winS, ?_⟩ | refine ⟨fun _ _ => eqC_winM, ?_⟩ | refine ⟨fun _ _ => eqC_winB, ?_⟩ | refine ⟨fun _ _ => eqC_selfB, ?_⟩ | refine ⟨fun _ _ => eqC_mpB, ?_⟩)) (fun _ _ => trivial) ?_⟩
      rintro x hs ⟨rfl, rfl⟩
      obtain ⟨IN, hIN⟩ : ∃ IN, padL 0x36#8 K = IN := ⟨_, rfl⟩
      obtain ⟨OU, hOU⟩ : ∃ OU, padL 0x5c#8 K = OU := ⟨_, rfl⟩
      have hINl : IN.length = 64 := by rw [← hIN, padL_len]
      have hOUl : OU.length = 64 := by rw [← hOU, padL_len]
      have hINi : ∀ i, i < 64 → (if i < 64 then L K i ^^^ 0x36#8 else L K i) = L IN i := fun i hi => by rw [if_pos hi, ← hIN]; exact (L_tab (b := fun i => L K i ^^^ 0x36#8) hi).symm
      have hOUi : ∀ i, i < 64 → (if i < 64 then L K i ^^^ 0x5c#8 else L K i) = L OU i := fun i hi => by rw [if_pos hi, ← hOU]; exact (L_tab (b := fun i => L K i ^^^ 0x5c#8) hi).symm
      (repeat first | refine ⟨by omega, ?_⟩ | refine ⟨by decide, ?_⟩ | refine ⟨idx8 _, ?_⟩ | refine ⟨lt8 (Nat.le_refl _) _, ?_⟩ | refine ⟨rfl, ?_⟩)
      have hsw := fn_swrite false 64 64 64 0 (L IN) d0 0 (by decide) (by omega) (by omega) (fun h => Bool.noConfusion h)
      have e1 : pushN d0 (L IN) 64 = pushL d0 (IN ++ cat ps 0) := by rw [← hINl, pushN_L]; simp [cat]
      have e2 : (0 : BitVec 64) + BitVec.ofNat 64 64 = BitVec.ofNat 64 (IN ++ cat ps 0).length := by simp [cat, hINl]
      rw [e1, e2] at hsw
      refine call_same hsw [5, 7, 9] rfl (by (repeat first | exact trivial | refine ⟨rfl, ?_⟩ | refine ⟨fun _ _ => ⟨rfl, trivial⟩, ?_⟩ | refine ⟨fun _ _ => trivial, ?_⟩ | refine ⟨by omega, ?_⟩ | refine ⟨fun _ _ => eqC_winS, ?_⟩ | refine ⟨fun _ _ => eqC_winM, ?_⟩ | refine ⟨fun _ _ => eqC_winB, ?_⟩ | refine ⟨fun _ _ => eqC_selfB, ?_⟩ | refine ⟨fun _ _ => eqC_mpB, ?_⟩)) ?_ (fun _ _ => trivial) ?_
      · (repeat first | exact trivial | refine ⟨rfl, ?_⟩ | refine ⟨fun _ _ => ⟨rfl, trivial⟩, ?_⟩ | refine ⟨fun _ _ => trivial, ?_⟩ | refine ⟨by omega, ?_⟩ | refine ⟨fun _ _ => eqC_winS, ?_⟩ | refine ⟨fun _ _ => eqC_winM, ?_⟩ | refine ⟨fun _ _ => eqC_winB, ?_⟩ | refine ⟨fun _ _ => eqC_selfB, ?_⟩ | refine ⟨fun _ _ => eqC_mpB, ?_⟩)
        refine ⟨fun j hj => eqC_win (f := fun i => SC.w8 (if i < 64 then L K i ^^^ 0x36#8 else L K i)) (fun i hi => congrArg SC.w8 ?_) j, ?_⟩
        · rw [Nat.zero_add]; exact hINi i hi
        · (repeat first | exact trivial | refine ⟨rfl, ?_⟩ | refine ⟨fun _ _ => ⟨rfl, trivial⟩, ?_⟩ | refine ⟨fun _ _ => trivial, ?_⟩ | refine ⟨by omega, ?_⟩ | refine ⟨fun _ _ => eqC_winS, ?_⟩ | refine ⟨fun _ _ => eqC_winM, ?_⟩ | refine ⟨fun _ _ => eqC_winB, ?_⟩ | refine ⟨fun _ _ => eqC_selfB, ?_⟩ | refine ⟨fun _ _ => eqC_mpB, ?_⟩)
      rintro x hs ⟨rfl, rfl⟩
      (repeat first | refine ⟨by omega, ?_⟩ | refine ⟨by decide, ?_⟩ | refine ⟨idx8 _, ?_⟩ | refine ⟨lt8 (Nat.le_refl _) _, ?_⟩ | refine ⟨rfl, ?_⟩)
      refine .inl ⟨Nat, fun k => ⟨[.a (.c (.p 5 0 0)), .any, .any, .any, .any, .any, .a (.c (.p 6 0 0)), .any, .a (.c (.p 8 0 0)), .any, .any, .a (.c (.p 9 0 0)), .any, .any, .any, .any, .any, .any, .any, .any, .any, .any, .any, .any, .any, .any, .any, .any, .any, .any, .any, .any, .any, .any, .any, .any, .any, .any, .any, .any, .any, .any, .any, .any, .any, .any, .any, .any, .any, .any, .a (.c (.sl 4 0 0 m cm)), .a (.c (.int .i64 (↑m))), .a (.c (.int .i64 (↑k))), .any, .any, .any, .any, .any, .any, .any, .any, .any, .any, .any, .any], [bts false Nk ok key.length (L key), bts z0 N0 o0 l0.length (L l0), bts z1 N1 o1 l1.length (L l1), bts z2 N2 o2 l2.length (L l2), [.row M (partsF m (nthC [.sn z0 1 0 o0 l0.length c0, .sn z1 2 0 o1 l1.length c1, .sn z2 3 0 o2 l2.length c2]))], shaT 1 0 first steps, [.row 32 fun _ => .w8 0#8], [], [.row 64 fun i => .w8 (L OU i)], digC 5 (pushL d0 (IN ++ cat ps k)).V (pushL d0 (IN ++ cat ps k)).P (pushL d0 (IN ++ cat ps k)).h (BitVec.ofNat 64 (IN ++ cat ps k).length)]⟩,
        fun k => k ≤ m, fun k => m - k, ⟨0, [0, 1, 2, 3, 4, 5, 6, 7, 8, 9], ⟨⟨rfl, rfl, rfl⟩, ?_⟩, by omega⟩, fun k hk => ⟨fun h => ?_, fun h => ?_⟩⟩
      · (repeat first | exact trivial | refine ⟨rfl, ?_⟩ | refine ⟨fun _ _ => ⟨rfl, trivial⟩, ?_⟩ | refine ⟨fun _ _ => trivial, ?_⟩ | refine ⟨by omega, ?_⟩ | refine ⟨fun _ _ => eqC_winS, ?_⟩ | refine ⟨fun _ _ => eqC_winM, ?_⟩ | refine ⟨fun _ _ => eqC_winB, ?_⟩ | refine ⟨fun _ _ => eqC_selfB, ?_⟩ | refine ⟨fun _ _ => eqC_mpB, ?_⟩)
        refine eqC_bts (eqC_bts (eqC_bts ⟨rfl, fun j hj => eqC_P123 hM, ?_⟩))
        (repeat first | exact trivial | refine ⟨rfl, ?_⟩ | refine ⟨fun _ _ => ⟨rfl, trivial⟩, ?_⟩ | refine ⟨fun _ _ => trivial, ?_⟩ | refine ⟨by omega, ?_⟩ | refine ⟨fun _ _ => eqC_winS, ?_⟩ | refine ⟨fun _ _ => eqC_winM, ?_⟩ | refine ⟨fun _ _ => eqC_winB, ?_⟩ | refine ⟨fun _ _ => eqC_selfB, ?_⟩ | refine ⟨fun _ _ => eqC_mpB, ?_⟩)
        refine ⟨fun j hj => eqC_w8 (congrArg SC.w8 (hOUi j hj)), ?_⟩
        (repeat first | exact trivial | refine ⟨rfl, ?_⟩ | refine ⟨fun _ _ => ⟨rfl, trivial⟩, ?_⟩ | refine ⟨fun _ _ => trivial, ?_⟩ | refine ⟨by omega, ?_⟩ | refine ⟨fun _ _ => eqC_winS, ?_⟩ | refine ⟨fun _ _ => eqC_winM, ?_⟩ | refine ⟨fun _ _ => eqC_winB, ?_⟩ | refine ⟨fun _ _ => eqC_selfB, ?_⟩ | refine ⟨fun _ _ => eqC_mpB, ?_⟩)
      · have hlt : k < m := by have : (k : Int) < (m : Int) := of_decide_eq_true h; omega
        (repeat first | refine ⟨by omega, ?_⟩ | refine ⟨by decide, ?_⟩ | refine ⟨idx8 _, ?_⟩ | refine ⟨lt8 (Nat.le_refl _) _, ?_⟩)
        have e3 : (k : Int).toNat + 0 = k := by omega
        rw [e3]
        refine frc_parts hlt ?_
        obtain ⟨D, hD⟩ : ∃ D, pushL d0 (IN ++ cat ps k) = D := ⟨_, rfl⟩
        have hDl : D.h < 64 := by rw [← hD]; exact pushL_lt (by decide) _
        rw [hD]
        have hk3 : k = 0 ∨ k = 1 ∨ k = 2 := by omega
        rcases hk3 with rfl | rfl | rfl
        · obtain ⟨hk1, hl1⟩ := hl 0 l0 IN (by rw [← hps]; rfl)
          rw [hD] at hk1
          refine ⟨by kernel_rfl, call_same (fn_swrite z0 l0.length c0 N0 o0 (L l0) D (BitVec.ofNat 64 (IN ++ cat ps 0).length) hDl hN0 hc0 (fun h => by rw [hz0 h]; rfl)) [5, 1, 9] rfl (by (repeat first | exact trivial | refine ⟨rfl, ?_⟩ | refine ⟨fun _ _ => ⟨rfl, trivial⟩, ?_⟩ | refine ⟨fun _ _ => trivial, ?_⟩ | refine ⟨by omega, ?_⟩ | refine ⟨fun _ _ => eqC_winS, ?_⟩ | refine ⟨fun _ _ => eqC_winM, ?_⟩ | refine ⟨fun _ _ => eqC_winB, ?_⟩ | refine ⟨fun _ _ => eqC_selfB, ?_⟩ | refine ⟨fun _ _ => eqC_mpB, ?_⟩)) ?_ (fun _ _ => trivial) ?_⟩
          · (repeat first | exact trivial | refine ⟨rfl, ?_⟩ | refine ⟨fun _ _ => ⟨rfl, trivial⟩, ?_⟩ | refine ⟨fun _ _ => trivial, ?_⟩ | refine ⟨by omega, ?_⟩ | refine ⟨fun _ _ => eqC_winS, ?_⟩ | refine ⟨fun _ _ => eqC_winM, ?_⟩ | refine ⟨fun _ _ => eqC_winB, ?_⟩ | refine ⟨fun _ _ => eqC_selfB, ?_⟩ | refine ⟨fun _ _ => eqC_mpB, ?_⟩)
            refine eqC_bts ?_
            (repeat first | exact trivial | refine ⟨rfl, ?_⟩ | refine ⟨fun _ _ => ⟨rfl, trivial⟩, ?_⟩ | refine ⟨fun _ _ => trivial, ?_⟩ | refine ⟨by omega, ?_⟩ | refine ⟨fun _ _ => eqC_winS, ?_⟩ | refine ⟨fun _ _ => eqC_winM, ?_⟩ | refine ⟨fun _ _ => eqC_winB, ?_⟩ | refine ⟨fun _ _ => eqC_selfB, ?_⟩ | refine ⟨fun _ _ => eqC_mpB, ?_⟩)
          · rintro x hs ⟨rfl, rfl⟩
            rw [hk1, hl1]
            refine ⟨⟨by omega, by omega⟩, 1, [0, 1, 2, 3, 4, 5, 6, 7, 8, 9], ⟨⟨rfl, rfl, rfl⟩, ?_⟩, by dsimp only; omega, by dsimp only; omega⟩
            (repeat first | exact trivial | refine ⟨rfl, ?_⟩ | refine ⟨fun _ _ => ⟨rfl, trivial⟩, ?_⟩ | refine ⟨fun _ _ => trivial, ?_⟩ | refine ⟨by omega, ?_⟩ | refine ⟨fun _ _ => eqC_winS, ?_⟩ | refine ⟨fun _ _ => eqC_winM, ?_⟩ | refine ⟨fun _ _ => eqC_winB, ?_⟩ | refine ⟨fun _ _ => eqC_selfB, ?_⟩ | refine ⟨fun _ _ => eqC_mpB, ?_⟩)
            refine eqC_bts (eqC_bts (eqC_bts ⟨rfl, fun j hj => eqC_P123 hM, ?_⟩))
            (repeat first | exact trivial | refine ⟨rfl, ?_⟩ | refine ⟨fun _ _ => ⟨rfl, trivial⟩, ?_⟩ | refine ⟨fun _ _ => trivial, ?_⟩ | refine ⟨by omega, ?_⟩ | refine ⟨fun _ _ => eqC_winS, ?_⟩ | refine ⟨fun _ _ => eqC_winM, ?_⟩ | refine ⟨fun _ _ => eqC_winB, ?_⟩ | refine ⟨fun _ _ => eqC_selfB, ?_⟩ | refine ⟨fun _ _ => eqC_mpB, ?_⟩)
        · obtain ⟨hk1, hl1⟩ := hl 1 l1 IN (by rw [← hps]; rfl)
          rw [hD] at hk1
          refine ⟨by kernel_rfl, call_same (fn_swrite z1 l1.length c1 N1 o1 (L l1) D (BitVec.ofNat 64 (IN ++ cat ps 1).length) hDl hN1 hc1 (fun h => by rw [hz1 h]; rfl)) [5, 2, 9] rfl (by (repeat first | exact trivial | refine ⟨rfl, ?_⟩ | refine ⟨fun _ _ => ⟨rfl, trivial⟩, ?_⟩ | refine ⟨fun _ _ => trivial, ?_⟩ | refine ⟨by omega, ?_⟩ | refine ⟨fun _ _ => eqC_winS, ?_⟩ | refine ⟨fun _ _ => eqC_winM, ?_⟩ | refine ⟨fun _ _ => eqC_winB, ?_⟩ | refine ⟨fun _ _ => eqC_selfB, ?_⟩ | refine ⟨fun _ _ => eqC_mpB, ?_⟩)) ?_ (fun _ _ => trivial) ?_⟩
          · (repeat first | exact trivial | refine ⟨rfl, ?_⟩ | refine ⟨fun _ _ => ⟨rfl, trivial⟩, ?_⟩ | refine ⟨fun _ _ => trivial, ?_⟩ | refine ⟨by omega, ?_⟩ | refine ⟨fun _ _ => eqC_winS, ?_⟩ | refine ⟨fun _ _ => eqC_winM, ?_⟩ | refine ⟨fun _ _ => eqC_winB, ?_⟩ | refine ⟨fun _ _ => eqC_selfB, ?_⟩ | refine ⟨fun _ _ => eqC_mpB, ?_⟩)
            refine eqC_bts ?_
            (repeat first | exact trivial | refine ⟨rfl, ?_⟩ | refine ⟨fun _ _ => ⟨rfl, trivial⟩, ?_⟩ | refine ⟨fun _ _ => trivial, ?_⟩ | refine ⟨by omega, ?_⟩ | refine ⟨fun _ _ => eqC_winS, ?_⟩ | refine ⟨fun _ _ => eqC_winM, ?_⟩ | refine ⟨fun _ _ => eqC_winB, ?_⟩ | refine ⟨fun _ _ => eqC_selfB, ?_⟩ | refine ⟨fun _ _ => eqC_mpB, ?_⟩)
          · rintro x hs ⟨rfl, rfl⟩
            rw [hk1, hl1]
            refine ⟨⟨by omega, by omega⟩, 2, [0, 1, 2, 3, 4, 5, 6, 7, 8, 9], ⟨⟨rfl, rfl, rfl⟩, ?_⟩, by dsimp only; omega, by dsimp only; omega⟩
            (repeat first | exact trivial | refine ⟨rfl, ?_⟩ | refine ⟨fun _ _ => ⟨rfl, trivial⟩, ?_⟩ | refine ⟨fun _ _ => trivial, ?_⟩ | refine ⟨by omega, ?_⟩ | refine ⟨fun _ _ => eqC_winS, ?_⟩ | refine ⟨fun _ _ => eqC_winM, ?_⟩ | refine ⟨fun _ _ => eqC_winB, ?_⟩ | refine ⟨fun _ _ => eqC_selfB, ?_⟩ | refine ⟨fun _ _ => eqC_mpB, ?_⟩)
            refine eqC_bts (eqC_bts (eqC_bts ⟨rfl, fun j hj => eqC_P123 hM, ?_⟩))
            (repeat first | exact trivial | refine ⟨rfl, ?_⟩ | refine ⟨fun _ _ => ⟨rfl, trivial⟩, ?_⟩ | refine ⟨fun _ _ => trivial, ?_⟩ | refine ⟨by omega, ?_⟩ | refine ⟨fun _ _ => eqC_winS, ?_⟩ | refine ⟨fun _ _ => eqC_winM, ?_⟩ | refine ⟨fun _ _ => eqC_winB, ?_⟩ | refine ⟨fun _ _ => eqC_selfB, ?_⟩ | refine ⟨fun _ _ => eqC_mpB, ?_⟩)
        · obtain ⟨hk1, hl1⟩ := hl 2 l2 IN (by rw [← hps]; rfl)
          rw [hD] at hk1
          refine ⟨by kernel_rfl, call_same (fn_swrite z2 l2.length c2 N2 o2 (L l2) D (BitVec.ofNat 64 (IN ++ cat ps 2).length) hDl hN2 hc2 (fun h => by rw [hz2 h]; rfl)) [5, 3, 9] rfl (by (repeat first | exact trivial | refine ⟨rfl, ?_⟩ | refine ⟨fun _ _ => ⟨rfl, trivial⟩, ?_⟩ | refine ⟨fun _ _ => trivial, ?_⟩ | refine ⟨by omega, ?_⟩ | refine ⟨fun _ _ => eqC_winS, ?_⟩ | refine ⟨fun _ _ => eqC_winM, ?_⟩ | refine ⟨fun _ _ => eqC_winB, ?_⟩ | refine ⟨fun _ _ => eqC_selfB, ?_⟩ | refine ⟨fun _ _ => eqC_mpB, ?_⟩)) ?_ (fun _ _ => trivial) ?_⟩
          · (repeat first | exact trivial | refine ⟨rfl, ?_⟩ | refine ⟨fun _ _ => ⟨rfl, trivial⟩, ?_⟩ | refine ⟨fun _ _ => trivial, ?_⟩ | refine ⟨by omega, ?_⟩ | refine ⟨fun _ _ => eqC_winS, ?_⟩ | refine ⟨fun _ _ => eqC_winM, ?_⟩ | refine ⟨fun _ _ => eqC_winB, ?_⟩ | refine ⟨fun _ _ => eqC_selfB, ?_⟩ | refine ⟨fun _ _ => eqC_mpB, ?_⟩)
            refine eqC_bts ?_
            (repeat first | exact trivial | refine ⟨rfl, ?_⟩ | refine ⟨fun _ _ => ⟨rfl, trivial⟩, ?_⟩ | refine ⟨fun _ _ => trivial, ?_⟩ | refine ⟨by omega, ?_⟩ | refine ⟨fun _ _ => eqC_winS, ?_⟩ | refine ⟨fun _ _ => eqC_winM, ?_⟩ | refine ⟨fun _ _ => eqC_winB, ?_⟩ | refine ⟨fun _ _ => eqC_selfB, ?_⟩ | refine ⟨fun _ _ => eqC_mpB, ?_⟩)
          · rintro x hs ⟨rfl, rfl⟩
            rw [hk1, hl1]
            refine ⟨⟨by omega, by omega⟩, 3, [0, 1, 2, 3, 4, 5, 6, 7, 8, 9], ⟨⟨rfl, rfl, rfl⟩, ?_⟩, by dsimp only; omega, by dsimp only; omega⟩
            (repeat first | exact trivial | refine ⟨rfl, ?_⟩ | refine ⟨fun _ _ => ⟨rfl, trivial⟩, ?_⟩ | refine ⟨fun _ _ => trivial, ?_⟩ | refine ⟨by omega, ?_⟩ | refine ⟨fun _ _ => eqC_winS, ?_⟩ | refine ⟨fun _ _ => eqC_winM, ?_⟩ | refine ⟨fun _ _ => eqC_winB, ?_⟩ | refine ⟨fun _ _ => eqC_selfB, ?_⟩ | refine ⟨fun _ _ => eqC_mpB, ?_⟩)
            refine eqC_bts (eqC_bts (eqC_bts ⟨rfl, fun j hj => eqC_P123 hM, ?_⟩))
            (repeat first | exact trivial | refine ⟨rfl, ?_⟩ | refine ⟨fun _ _ => ⟨rfl, trivial⟩, ?_⟩ | refine ⟨fun _ _ => trivial, ?_⟩ | refine ⟨by omega, ?_⟩ | refine ⟨fun _ _ => eqC_winS, ?_⟩ | refine ⟨fun _ _ => eqC_winM, ?_⟩ | refine ⟨fun _ _ => eqC_winB, ?_⟩ | refine ⟨fun _ _ => eqC_selfB, ?_⟩ | refine ⟨fun _ _ => eqC_mpB, ?_⟩)
      · obtain rfl : k = m := by have : ¬ (k : Int) < (m : Int) := of_decide_eq_false h; have hk : k ≤ m := hk; omega
        obtain ⟨D, hD⟩ : ∃ D, pushL d0 (IN ++ cat ps k) = D := ⟨_, rfl⟩
        have hDl : D.h < 64 := by rw [← hD]; exact pushL_lt (by decide) _
        obtain ⟨S, hS⟩ : ∃ S, sumL (IN ++ cat ps k) = S := ⟨_, rfl⟩
        have hSl : S.length = 32 := by rw [← hS, sumL_len]
        have hSL : ∀ i, i < 32 → endV D (BitVec.ofNat 64 (IN ++ cat ps k).length) i = L S i := fun i hi => by rw [← hS, L_sumL _ hi, hD]
        have hM1 : markL key (cat ps k) = sumL (OU ++ S) := by unfold markL; rw [hK, hIN, hOU, hS]
        rw [hD]
        refine ⟨by kernel_rfl, call_same (fn_send D (BitVec.ofNat 64 (IN ++ cat ps k).length) hDl) [5, 9] rfl (by (repeat first | exact trivial | refine ⟨rfl, ?_⟩ | refine ⟨fun _ _ => ⟨rfl, trivial⟩, ?_⟩ | refine ⟨fun _ _ => trivial, ?_⟩ | refine ⟨by omega, ?_⟩ | refine ⟨fun _ _ => eqC_winS, ?_⟩ | refine ⟨fun _ _ => eqC_winM, ?_⟩ | refine ⟨fun _ _ => eqC_winB, ?_⟩ | refine ⟨fun _ _ => eqC_selfB, ?_⟩ | refine ⟨fun _ _ => eqC_mpB, ?_⟩)) (by (repeat first | exact trivial | refine ⟨rfl, ?_⟩ | refine ⟨fun _ _ => ⟨rfl, trivial⟩, ?_⟩ | refine ⟨fun _ _ => trivial, ?_⟩ | refine ⟨by omega, ?_⟩ | refine ⟨fun _ _ => eqC_winS, ?_⟩ | refine ⟨fun _ _ => eqC_winM, ?_⟩ | refine ⟨fun _ _ => eqC_winB, ?_⟩ | refine ⟨fun _ _ => eqC_selfB, ?_⟩ | refine ⟨fun _ _ => eqC_mpB, ?_⟩)) (fun _ _ => trivial) ?_⟩
        rintro x hs ⟨rfl, V', P', h', a', rfl⟩
        (repeat first | refine ⟨by omega, ?_⟩ | refine ⟨by decide, ?_⟩ | refine ⟨idx8 _, ?_⟩ | refine ⟨lt8 (Nat.le_refl _) _, ?_⟩ | refine ⟨rfl, ?_⟩)
        refine ⟨some [], [], [(0, true), (1, true), (2, true), (3, false), (4, false)], [5], by kernel_rfl, ?_⟩
        (repeat first | refine ⟨by omega, ?_⟩ | refine ⟨by decide, ?_⟩ | refine ⟨idx8 _, ?_⟩ | refine ⟨lt8 (Nat.le_refl _) _, ?_⟩ | refine ⟨rfl, ?_⟩)
        refine call_same (fn_ssum3 false false true 64 32 0 0 0 0 64 32 0 OU S [] 2 2 2 1 first steps (.inr ⟨rfl, rfl, rfl⟩) (by omega) (by omega) (by decide) (by omega) (by omega) (by decide) (fun h => Bool.noConfusion h) (fun h => Bool.noConfusion h) (fun _ => rfl) (by decide) (by decide)) [8, 10, 10, 11, 5] rfl (by (repeat first | exact trivial | refine ⟨rfl, ?_⟩ | refine ⟨fun _ _ => ⟨rfl, trivial⟩, ?_⟩ | refine ⟨fun _ _ => trivial, ?_⟩ | refine ⟨by omega, ?_⟩ | refine ⟨fun _ _ => eqC_winS, ?_⟩ | refine ⟨fun _ _ => eqC_winM, ?_⟩ | refine ⟨fun _ _ => eqC_winB, ?_⟩ | refine ⟨fun _ _ => eqC_selfB, ?_⟩ | refine ⟨fun _ _ => eqC_mpB, ?_⟩)) ?_ (fun _ _ => trivial) ?_
        · (repeat first | exact trivial | refine ⟨rfl, ?_⟩ | refine ⟨fun _ _ => ⟨rfl, trivial⟩, ?_⟩ | refine ⟨fun _ _ => trivial, ?_⟩ | refine ⟨by omega, ?_⟩ | refine ⟨fun _ _ => eqC_winS, ?_⟩ | refine ⟨fun _ _ => eqC_winM, ?_⟩ | refine ⟨fun _ _ => eqC_winB, ?_⟩ | refine ⟨fun _ _ => eqC_selfB, ?_⟩ | refine ⟨fun _ _ => eqC_mpB, ?_⟩)
          refine ⟨fun j hj => eqC_win8 (fun i hi => rfl) j, ?_⟩
          (repeat first | exact trivial | refine ⟨rfl, ?_⟩ | refine ⟨fun _ _ => ⟨rfl, trivial⟩, ?_⟩ | refine ⟨fun _ _ => trivial, ?_⟩ | refine ⟨by omega, ?_⟩ | refine ⟨fun _ _ => eqC_winS, ?_⟩ | refine ⟨fun _ _ => eqC_winM, ?_⟩ | refine ⟨fun _ _ => eqC_winB, ?_⟩ | refine ⟨fun _ _ => eqC_selfB, ?_⟩ | refine ⟨fun _ _ => eqC_mpB, ?_⟩)
          refine ⟨fun j hj => eqC_win8 (fun i hi => hSL i (by omega)) j, ?_⟩
          (repeat first | exact trivial | refine ⟨rfl, ?_⟩ | refine ⟨fun _ _ => ⟨rfl, trivial⟩, ?_⟩ | refine ⟨fun _ _ => trivial, ?_⟩ | refine ⟨by omega, ?_⟩ | refine ⟨fun _ _ => eqC_winS, ?_⟩ | refine ⟨fun _ _ => eqC_winM, ?_⟩ | refine ⟨fun _ _ => eqC_winB, ?_⟩ | refine ⟨fun _ _ => eqC_selfB, ?_⟩ | refine ⟨fun _ _ => eqC_mpB, ?_⟩)
          refine ⟨fun j hj => eqC_parts (fun i hi => ?_) j, ?_⟩
          · have : i = 0 ∨ i = 1 := by omega
            rcases this with rfl | rfl
            · exact ⟨rfl, rfl, hOUl.symm, rfl, trivial⟩
            · exact ⟨rfl, rfl, hSl.symm, rfl, trivial⟩
          · (repeat first | exact trivial | refine ⟨rfl, ?_⟩ | refine ⟨fun _ _ => ⟨rfl, trivial⟩, ?_⟩ | refine ⟨fun _ _ => trivial, ?_⟩ | refine ⟨by omega, ?_⟩ | refine ⟨fun _ _ => eqC_winS, ?_⟩ | refine ⟨fun _ _ => eqC_winM, ?_⟩ | refine ⟨fun _ _ => eqC_winB, ?_⟩ | refine ⟨fun _ _ => eqC_selfB, ?_⟩ | refine ⟨fun _ _ => eqC_mpB, ?_⟩)
        rintro x hs ⟨rfl, rfl⟩
        (repeat first | refine ⟨by omega, ?_⟩ | refine ⟨by decide, ?_⟩ | refine ⟨idx8 _, ?_⟩ | refine ⟨lt8 (Nat.le_refl _) _, ?_⟩ | refine ⟨rfl, ?_⟩)
        have hcat : cat (ps3 OU S []) 2 = OU ++ S := by simp [cat, ps3]
        rw [hcat]
        refine ⟨.a (.agg [.row 32 fun i => .w8 (L (markL key (cat ps k)) i)]), [bts false Nk ok key.length (L key), bts z0 N0 o0 l0.length (L l0), bts z1 N1 o1 l1.length (L l1), bts z2 N2 o2 l2.length (L l2), [.row M (partsF k (nthC [.sn z0 1 0 o0 l0.length c0, .sn z1 2 0 o1 l1.length c1, .sn z2 3 0 o2 l2.length c2]))], shaT 1 0 first steps], ⟨[0, 1, 2, 3, 4, 5], ⟨rfl, rfl, rfl⟩, ?_⟩, rfl, rfl⟩
        rw [hM1]
        (repeat first | exact trivial | refine ⟨rfl, ?_⟩ | refine ⟨fun _ _ => ⟨rfl, trivial⟩, ?_⟩ | refine ⟨fun _ _ => trivial, ?_⟩ | refine ⟨by omega, ?_⟩ | refine ⟨fun _ _ => eqC_winS, ?_⟩ | refine ⟨fun _ _ => eqC_winM, ?_⟩ | refine ⟨fun _ _ => eqC_winB, ?_⟩ | refine ⟨fun _ _ => eqC_selfB, ?_⟩ | refine ⟨fun _ _ => eqC_mpB, ?_⟩)
        refine eqC_bts (eqC_bts (eqC_bts ⟨rfl, fun j hj => eqC_P123 hM, ?_⟩))
        (repeat first | exact trivial | refine ⟨rfl, ?_⟩ | refine ⟨fun _ _ => ⟨rfl, trivial⟩, ?_⟩ | refine ⟨fun _ _ => trivial, ?_⟩ | refine ⟨by omega, ?_⟩ | refine ⟨fun _ _ => eqC_winS, ?_⟩ | refine ⟨fun _ _ => eqC_winM, ?_⟩ | refine ⟨fun _ _ => eqC_winB, ?_⟩ | refine ⟨fun _ _ => eqC_selfB, ?_⟩ | refine ⟨fun _ _ => eqC_mpB, ?_⟩)
  refine ⟨fun h => absurd (of_decide_eq_true h) (by omega), fun _ => ?_⟩
  obtain rfl : key = K := by rw [← hK]; unfold keyL; rw [if_neg hlen]
  cases zk with
  | true =>
    obtain rfl := hzk rfl
    have hrow := key_row [] [] 0 0 (by decide) rfl (fun i => .any) (fun i hi => absurd hi (by simp))
    have hd' := hd
    (repeat first | refine ⟨by omega, ?_⟩ | refine ⟨by decide, ?_⟩ | refine ⟨idx8 _, ?_⟩ | refine ⟨lt8 (Nat.le_refl _) _, ?_⟩ | refine ⟨rfl, ?_⟩ | refine ⟨by simp only [scale]; omega, ?_⟩)
    refine ⟨fun q => SC.any, ⟨fun h => rfl, fun h => Bool.noConfusion h⟩, ?_⟩
    (repeat first | refine ⟨by omega, ?_⟩ | refine ⟨by decide, ?_⟩ | refine ⟨idx8 _, ?_⟩ | refine ⟨lt8 (Nat.le_refl _) _, ?_⟩ | refine ⟨rfl, ?_⟩ | refine ⟨by simp only [scale]; omega, ?_⟩)
    refine ⟨fun q => SC.any, ⟨fun h => rfl, fun h => Bool.noConfusion h⟩, ?_⟩
    (repeat first | refine ⟨by omega, ?_⟩ | refine ⟨by decide, ?_⟩ | refine ⟨idx8 _, ?_⟩ | refine ⟨lt8 (Nat.le_refl _) _, ?_⟩ | refine ⟨rfl, ?_⟩ | refine ⟨by simp only [scale]; omega, ?_⟩)
    refine .inl ⟨Nat, fun k => ⟨[.a (.c (.p 5 0 0)), .any, .a (.c (.sl 4 0 0 m cm)), .any, .any, .any, .a (.c (.p 6 0 0)), .a (.c (.p 7 0 0)), .a (.c (.p 8 0 0)), .any, .any, .any, .any, .any, .any, .any, .any, .any, .any, .any, .any, .any, .any, .any, .any, .any, .any, .any, .any, .any, .any, .any, .a (.c (.int .i64 (↑k))), .any, .any, .any, .any, .any, .any, .any, .any, .any, .any, .any, .any, .any, .any, .any, .any, .any, .any, .any, .any, .any, .any, .any, .any, .any, .any, .any, .any, .any, .any, .any, .any], [bts true Nk ok ([] : Bs).length (L ([] : Bs)), bts z0 N0 o0 l0.length (L l0), bts z1 N1 o1 l1.length (L l1), bts z2 N2 o2 l2.length (L l2), [.row M (partsF m (nthC [.sn z0 1 0 o0 l0.length c0, .sn z1 2 0 o1 l1.length c1, .sn z2 3 0 o2 l2.length c2]))], shaT dn 0 f s, [.row 32 fun _ => .w8 0#8], [.row 64 fun i => .w8 (if i < k then L ([] : Bs) i ^^^ 0x36#8 else L ([] : Bs) i)], [.row 64 fun i => .w8 (if i < k then L ([] : Bs) i ^^^ 0x5c#8 else L ([] : Bs) i)]]⟩,
      fun k => k ≤ 64, fun k => 64 - k, ⟨0, [0, 1, 2, 3, 4, 5, 6, 7, 8], ⟨⟨rfl, rfl, rfl⟩, ?_⟩, by omega⟩, fun k hk => ⟨fun h => ?_, fun h => ?_⟩⟩
    · (repeat first | exact trivial | refine ⟨rfl, ?_⟩ | refine ⟨fun _ _ => ⟨rfl, trivial⟩, ?_⟩ | refine ⟨fun _ _ => trivial, ?_⟩ | refine ⟨by omega, ?_⟩ | refine ⟨fun _ _ => eqC_winS, ?_⟩ | refine ⟨fun _ _ => eqC_winM, ?_⟩ | refine ⟨fun _ _ => eqC_winB, ?_⟩ | refine ⟨fun _ _ => eqC_selfB, ?_⟩ | refine ⟨fun _ _ => eqC_mpB, ?_⟩)
      refine eqC_bts (eqC_bts (eqC_bts (eqC_bts ⟨rfl, fun j hj => eqC_P123 hM, ?_⟩)))
      (repeat first | exact trivial | refine ⟨rfl, ?_⟩ | refine ⟨fun _ _ => ⟨rfl, trivial⟩, ?_⟩ | refine ⟨fun _ _ => trivial, ?_⟩ | refine ⟨by omega, ?_⟩ | refine ⟨fun _ _ => eqC_winS, ?_⟩ | refine ⟨fun _ _ => eqC_winM, ?_⟩ | refine ⟨fun _ _ => eqC_winB, ?_⟩ | refine ⟨fun _ _ => eqC_selfB, ?_⟩ | refine ⟨fun _ _ => eqC_mpB, ?_⟩)
    · have hlt : (k : Int) < 64 := of_decide_eq_true h
      (repeat first | refine ⟨by omega, ?_⟩ | refine ⟨by decide, ?_⟩ | refine ⟨idx8 _, ?_⟩ | refine ⟨lt8 (Nat.le_refl _) _, ?_⟩)
      refine ⟨rfl, ?_⟩
      (repeat first | refine ⟨by omega, ?_⟩ | refine ⟨by decide, ?_⟩ | refine ⟨idx8 _, ?_⟩ | refine ⟨lt8 (Nat.le_refl _) _, ?_⟩)
      refine ⟨rfl, ⟨by omega, by omega⟩, k + 1, [0, 1, 2, 3, 4, 5, 6, 7, 8], ⟨⟨rfl, rfl, rfl⟩, ?_⟩, by dsimp only; omega, by dsimp only; omega⟩
      (repeat first | exact trivial | refine ⟨rfl, ?_⟩ | refine ⟨fun _ _ => ⟨rfl, trivial⟩, ?_⟩ | refine ⟨fun _ _ => trivial, ?_⟩ | refine ⟨by omega, ?_⟩ | refine ⟨fun _ _ => eqC_winS, ?_⟩ | refine ⟨fun _ _ => eqC_winM, ?_⟩ | refine ⟨fun _ _ => eqC_winB, ?_⟩ | refine ⟨fun _ _ => eqC_selfB, ?_⟩ | refine ⟨fun _ _ => eqC_mpB, ?_⟩)
      refine eqC_bts (eqC_bts (eqC_bts (eqC_bts ⟨rfl, fun j hj => eqC_P123 hM, ?_⟩)))
      (repeat first | exact trivial | refine ⟨rfl, ?_⟩ | refine ⟨fun _ _ => ⟨rfl, trivial⟩, ?_⟩ | refine ⟨fun _ _ => trivial, ?_⟩ | refine ⟨by omega, ?_⟩ | refine ⟨fun _ _ => eqC_winS, ?_⟩ | refine ⟨fun _ _ => eqC_winM, ?_⟩ | refine ⟨fun _ _ => eqC_winB, ?_⟩ | refine ⟨fun _ _ => eqC_selfB, ?_⟩ | refine ⟨fun _ _ => eqC_mpB, ?_⟩)
      have e0 : (k : Int).toNat + 0 = k := by omega
      rw [e0]
      have hx : ∀ (x : BitVec 8) (j : Nat), eqC [0, 1, 2, 3, 4, 5, 6, 7, 8] (upd (fun i => SC.w8 (if i < k then L ([] : Bs) i ^^^ x else L ([] : Bs) i)) k (.w8 ((if k < k then L ([] : Bs) k ^^^ x else L ([] : Bs) k) ^^^ x)) j) (.w8 (if j < k + 1 then L ([] : Bs) j ^^^ x else L ([] : Bs) j)) True := fun x j => by
        unfold upd
        by_cases hj : j = k
        · rw [if_pos hj, if_neg (Nat.lt_irrefl k), hj, if_pos (by omega)]; exact ⟨rfl, trivial⟩
        · have : j < k + 1 ↔ j < k := by omega
          rw [if_neg hj]; simp only [this]; exact ⟨rfl, trivial⟩
      exact ⟨fun j hj => hx _ j, rfl, fun j hj => hx _ j, by (repeat first | exact trivial | refine ⟨rfl, ?_⟩ | refine ⟨fun _ _ => ⟨rfl, trivial⟩, ?_⟩ | refine ⟨fun _ _ => trivial, ?_⟩ | refine ⟨by omega, ?_⟩ | refine ⟨fun _ _ => eqC_winS, ?_⟩ | refine ⟨fun _ _ => eqC_winM, ?_⟩ | refine ⟨fun _ _ => eqC_winB, ?_⟩ | refine ⟨fun _ _ => eqC_selfB, ?_⟩ | refine ⟨fun _ _ => eqC_mpB, ?_⟩)⟩
    · obtain rfl : k = 64 := by have : ¬ (k : Int) < 64 := of_decide_eq_false h; have hk : k ≤ 64 := hk; omega
      refine ⟨by kernel_rfl, call_same (fn_begin dn f s hd') [5] rfl (by (repeat first | exact trivial | refine ⟨rfl, ?_⟩ | refine ⟨fun _ _ => ⟨rfl, trivial⟩, ?_⟩ | refine ⟨fun _ _ => trivial, ?_⟩ | refine ⟨by omega, ?_⟩ | refine ⟨fun _ _ => eqC_winS, ?_⟩ | refine ⟨fun _ _ => eqC_winM, ?_⟩ | refine ⟨fun _ _ => eqC_winB, ?_⟩ | refine ⟨fun _ _ => eqC_selfB, ?_⟩ | refine ⟨fun _ _ => eqC_mpB, ?_⟩)) (by (repeat first | exact trivial | refine ⟨rfl, ?_⟩ | refine ⟨fun _ _ => ⟨rfl, trivial⟩, ?_⟩ | refine ⟨fun _ _ => trivial, ?_⟩ | refine ⟨by omega, ?_⟩ | refine ⟨fun _ _ => eqC_winS, ?_⟩ | refine ⟨fun _ _ => eqC_winM, ?_⟩ | refine ⟨fun _ _ => eqC_winB, ?_⟩ | refine ⟨fun _ _ => eqC_selfB, ?_⟩ | refine ⟨fun _ _ => eqC_mpB, ?_⟩)) (fun _ _ => trivial) ?_⟩
      rintro x hs ⟨rfl, rfl⟩
      obtain ⟨IN, hIN⟩ : ∃ IN, padL 0x36#8 ([] : Bs) = IN := ⟨_, rfl⟩
      obtain ⟨OU, hOU⟩ : ∃ OU, padL 0x5c#8 ([] : Bs) = OU := ⟨_, rfl⟩
      have hINl : IN.length = 64 := by rw [← hIN, padL_len]
      have hOUl : OU.length = 64 := by rw [← hOU, padL_len]
      have hINi : ∀ i, i < 64 → (if i < 64 then L ([] : Bs) i ^^^ 0x36#8 else L ([] : Bs) i) = L IN i := fun i hi => by rw [if_pos hi, ← hIN]; exact (L_tab (b := fun i => L ([] : Bs) i ^^^ 0x36#8) hi).symm
      have hOUi : ∀ i, i < 64 → (if i < 64 then L ([] : Bs) i ^^^ 0x5c#8 else L ([] : Bs) i) = L OU i := fun i hi => by rw [if_pos hi, ← hOU]; exact (L_tab (b := fun i => L ([] : Bs) i ^^^ 0x5c#8) hi).symm
      (repeat first | refine ⟨by omega, ?_⟩ | refine ⟨by decide, ?_⟩ | refine ⟨idx8 _, ?_⟩ | refine ⟨lt8 (Nat.le_refl _) _, ?_⟩ | refine ⟨rfl, ?_⟩)
      have hsw := fn_swrite false 64 64 64 0 (L IN) d0 0 (by decide) (by omega) (by omega) (fun h => Bool.noConfusion h)
      have e1 : pushN d0 (L IN) 64 = pushL d0 (IN ++ cat ps 0) := by rw [← hINl, pushN_L]; simp [cat]
      have e2 : (0 : BitVec 64) + BitVec.ofNat 64 64 = BitVec.ofNat 64 (IN ++ cat ps 0).length := by simp [cat, hINl]
      rw [e1, e2] at hsw
      refine call_same hsw [5, 7, 9] rfl (by (repeat first | exact trivial | refine ⟨rfl, ?_⟩ | refine ⟨fun _ _ => ⟨rfl, trivial⟩, ?_⟩ | refine ⟨fun _ _ => trivial, ?_⟩ | refine ⟨by omega, ?_⟩ | refine ⟨fun _ _ => eqC_winS, ?_⟩ | refine ⟨fun _ _ => eqC_winM, ?_⟩ | refine ⟨fun _ _ => eqC_winB, ?_⟩ | refine ⟨fun _ _ => eqC_selfB, ?_⟩ | refine ⟨fun _ _ => eqC_mpB, ?_⟩)) ?_ (fun _ _ => trivial) ?_
      · (repeat first | exact trivial | refine ⟨rfl, ?_⟩ | refine ⟨fun _ _ => ⟨rfl, trivial⟩, ?_⟩ | refine ⟨fun _ _ => trivial, ?_⟩ | refine ⟨by omega, ?_⟩ | refine ⟨fun _ _ => eqC_winS, ?_⟩ | refine ⟨fun _ _ => eqC_winM, ?_⟩ | refine ⟨fun _ _ => eqC_winB, ?_⟩ | refine ⟨fun _ _ => eqC_selfB, ?_⟩ | refine ⟨fun _ _ => eqC_mpB, ?_⟩)
        refine ⟨fun j hj => eqC_win (f := fun i => SC.w8 (if i < 64 then L ([] : Bs) i ^^^ 0x36#8 else L ([] : Bs) i)) (fun i hi => congrArg SC.w8 ?_) j, ?_⟩
        · rw [Nat.zero_add]; exact hINi i hi
        · (repeat first | exact trivial | refine ⟨rfl, ?_⟩ | refine ⟨fun _ _ => ⟨rfl, trivial⟩, ?_⟩ | refine ⟨fun _ _ => trivial, ?_⟩ | refine ⟨by omega, ?_⟩ | refine ⟨fun _ _ => eqC_winS, ?_⟩ | refine ⟨fun _ _ => eqC_winM, ?_⟩ | refine ⟨fun _ _ => eqC_winB, ?_⟩ | refine ⟨fun _ _ => eqC_selfB, ?_⟩ | refine ⟨fun _ _ => eqC_mpB, ?_⟩)
      rintro x hs ⟨rfl, rfl⟩
      (repeat first | refine ⟨by omega, ?_⟩ | refine ⟨by decide, ?_⟩ | refine ⟨idx8 _, ?_⟩ | refine ⟨lt8 (Nat.le_refl _) _, ?_⟩ | refine ⟨rfl, ?_⟩)
      refine .inl ⟨Nat, fun k => ⟨[.a (.c (.p 5 0 0)), .any, .any, .any, .any, .any, .a (.c (.p 6 0 0)), .any, .a (.c (.p 8 0 0)), .any, .any, .a (.c (.p 9 0 0)), .any, .any, .any, .any, .any, .any, .any, .any, .any, .any, .any, .any, .any, .any, .any, .any, .any, .any, .any, .any, .any, .any, .any, .any, .any, .any, .any, .any, .any, .any, .any, .any, .any, .any, .any, .any, .any, .any, .a (.c (.sl 4 0 0 m cm)), .a (.c (.int .i64 (↑m))), .a (.c (.int .i64 (↑k))), .any, .any, .any, .any, .any, .any, .any, .any, .any, .any, .any, .any], [bts true Nk ok ([] : Bs).length (L ([] : Bs)), bts z0 N0 o0 l0.length (L l0), bts z1 N1 o1 l1.length (L l1), bts z2 N2 o2 l2.length (L l2), [.row M (partsF m (nthC [.sn z0 1 0 o0 l0.length c0, .sn z1 2 0 o1 l1.length c1, .sn z2 3 0 o2 l2.length c2]))], shaT 1 0 first steps, [.row 32 fun _ => .w8 0#8], [], [.row 64 fun i => .w8 (L OU i)], digC 5 (pushL d0 (IN ++ cat ps k)).V (pushL d0 (IN ++ cat ps k)).P (pushL d0 (IN ++ cat ps k)).h (BitVec.ofNat 64 (IN ++ cat ps k).length)]⟩,
        fun k => k ≤ m, fun k => m - k, ⟨0, [0, 1, 2, 3, 4, 5, 6, 7, 8, 9], ⟨⟨rfl, rfl, rfl⟩, ?_⟩, by omega⟩, fun k hk => ⟨fun h => ?_, fun h => ?_⟩⟩
      · (repeat first | exact trivial | refine ⟨rfl, ?_⟩ | refine ⟨fun _ _ => ⟨rfl, trivial⟩, ?_⟩ | refine ⟨fun _ _ => trivial, ?_⟩ | refine ⟨by omega, ?_⟩ | refine ⟨fun _ _ => eqC_winS, ?_⟩ | refine ⟨fun _ _ => eqC_winM, ?_⟩ | refine ⟨fun _ _ => eqC_winB, ?_⟩ | refine ⟨fun _ _ => eqC_selfB, ?_⟩ | refine ⟨fun _ _ => eqC_mpB, ?_⟩)
        refine eqC_bts (eqC_bts (eqC_bts (eqC_bts ⟨rfl, fun j hj => eqC_P123 hM, ?_⟩)))
        (repeat first | exact trivial | refine ⟨rfl, ?_⟩ | refine ⟨fun _ _ => ⟨rfl, trivial⟩, ?_⟩ | refine ⟨fun _ _ => trivial, ?_⟩ | refine ⟨by omega, ?_⟩ | refine ⟨fun _ _ => eqC_winS, ?_⟩ | refine ⟨fun _ _ => eqC_winM, ?_⟩ | refine ⟨fun _ _ => eqC_winB, ?_⟩ | refine ⟨fun _ _ => eqC_selfB, ?_⟩ | refine ⟨fun _ _ => eqC_mpB, ?_⟩)
        refine ⟨fun j hj => eqC_w8 (congrArg SC.w8 (hOUi j hj)), ?_⟩
        (repeat first | exact trivial | refine ⟨rfl, ?_⟩ | refine ⟨fun _ _ => ⟨rfl, trivial⟩, ?_⟩ | refine ⟨fun _ _ => trivial, ?_⟩ | refine ⟨by omega, ?_⟩ | refine ⟨fun _ _ => eqC_winS, ?_⟩ | refine ⟨fun _ _ => eqC_winM, ?_⟩ | refine ⟨fun _ _ => eqC_winB, ?_⟩ | refine ⟨fun _ _ => eqC_selfB, ?_⟩ | refine ⟨fun _ _ => eqC_mpB, ?_⟩)
      · have hlt : k < m := by have : (k : Int) < (m : Int) := of_decide_eq_true h; omega
        (repeat first | refine ⟨by omega, ?_⟩ | refine ⟨by decide, ?_⟩ | refine ⟨idx8 _, ?_⟩ | refine ⟨lt8 (Nat.le_refl _) _, ?_⟩)
        have e3 : (k : Int).toNat + 0 = k := by omega
        rw [e3]
        refine frc_parts hlt ?_
        obtain ⟨D, hD⟩ : ∃ D, pushL d0 (IN ++ cat ps k) = D := ⟨_, rfl⟩
        have hDl : D.h < 64 := by rw [← hD]; exact pushL_lt (by decide) _
        rw [hD]
        have hk3 : k = 0 ∨ k = 1 ∨ k = 2 := by omega
        rcases hk3 with rfl | rfl | rfl
        · obtain ⟨hk1, hl1⟩ := hl 0 l0 IN (by rw [← hps]; rfl)
          rw [hD] at hk1
          refine ⟨by kernel_rfl, call_same (fn_swrite z0 l0.length c0 N0 o0 (L l0) D (BitVec.ofNat 64 (IN ++ cat ps 0).length) hDl hN0 hc0 (fun h => by rw [hz0 h]; rfl)) [5, 1, 9] rfl (by (repeat first | exact trivial | refine ⟨rfl, ?_⟩ | refine ⟨fun _ _ => ⟨rfl, trivial⟩, ?_⟩ | refine ⟨fun _ _ => trivial, ?_⟩ | refine ⟨by omega, ?_⟩ | refine ⟨fun _ _ => eqC_winS, ?_⟩ | refine ⟨fun _ _ => eqC_winM, ?_⟩ | refine ⟨fun _ _ => eqC_winB, ?_⟩ | refine ⟨fun _ _ => eqC_selfB, ?_⟩ | refine ⟨fun _ _ => eqC_mpB, ?_⟩)) ?_ (fun _ _ => trivial) ?_⟩
          · (repeat first | exact trivial | refine ⟨rfl, ?_⟩ | refine ⟨fun _ _ => ⟨rfl, trivial⟩, ?_⟩ | refine ⟨fun _ _ => trivial, ?_⟩ | refine ⟨by omega, ?_⟩ | refine ⟨fun _ _ => eqC_winS, ?_⟩ | refine ⟨fun _ _ => eqC_winM, ?_⟩ | refine ⟨fun _ _ => eqC_winB, ?_⟩ | refine ⟨fun _ _ => eqC_selfB, ?_⟩ | refine ⟨fun _ _ => eqC_mpB, ?_⟩)
            refine eqC_bts ?_
            (repeat first | exact trivial | refine ⟨rfl, ?_⟩ | refine ⟨fun _ _ => ⟨rfl, trivial⟩, ?_⟩ | refine ⟨fun _ _ => trivial, ?_⟩ | refine ⟨by omega, ?_⟩ | refine ⟨fun _ _ => eqC_winS, ?_⟩ | refine ⟨fun _ _ => eqC_winM, ?_⟩ | refine ⟨fun _ _ => eqC_winB, ?_⟩ | refine ⟨fun _ _ => eqC_selfB, ?_⟩ | refine ⟨fun _ _ => eqC_mpB, ?_⟩)
          · rintro x hs ⟨rfl, rfl⟩
            rw [hk1, hl1]
            refine ⟨⟨by omega, by omega⟩, 1, [0, 1, 2, 3, 4, 5, 6, 7, 8, 9], ⟨⟨rfl, rfl, rfl⟩, ?_⟩, by dsimp only; omega, by dsimp only; omega⟩
            (repeat first | exact trivial | refine ⟨rfl, ?_⟩ | refine ⟨fun _ _ => ⟨rfl, trivial⟩, ?_⟩ | refine ⟨fun _ _ => trivial, ?_⟩ | refine ⟨by omega, ?_⟩ | refine ⟨fun _ _ => eqC_winS, ?_⟩ | refine ⟨fun _ _ => eqC_winM, ?_⟩ | refine ⟨fun _ _ => eqC_winB, ?_⟩ | refine ⟨fun _ _ => eqC_selfB, ?_⟩ | refine ⟨fun _ _ => eqC_mpB, ?_⟩)
            refine eqC_bts (eqC_bts (eqC_bts (eqC_bts ⟨rfl, fun j hj => eqC_P123 hM, ?_⟩)))
            (repeat first | exact trivial | refine ⟨rfl, ?_⟩ | refine ⟨fun _ _ => ⟨rfl, trivial⟩, ?_⟩ | refine ⟨fun _ _ => trivial, ?_⟩ | refine ⟨by omega, ?_⟩ | refine ⟨fun _ _ => eqC_winS, ?_⟩ | refine ⟨fun _ _ => eqC_winM, ?_⟩ | refine ⟨fun _ _ => eqC_winB, ?_⟩ | refine ⟨fun _ _ => eqC_selfB, ?_⟩ | refine ⟨fun _ _ => eqC_mpB, ?_⟩)
        · obtain ⟨hk1, hl1⟩ := hl 1 l1 IN (by rw [← hps]; rfl)
          rw [hD] at hk1
          refine ⟨by kernel_rfl, call_same (fn_swrite z1 l1.length c1 N1 o1 (L l1) D (BitVec.ofNat 64 (IN ++ cat ps 1).length) hDl hN1 hc1 (fun h => by rw [hz1 h]; rfl)) [5, 2, 9] rfl (by (repeat first | exact trivial | refine ⟨rfl, ?_⟩ | refine ⟨fun _ _ => ⟨rfl, trivial⟩, ?_⟩ | refine ⟨fun _ _ => trivial, ?_⟩ | refine ⟨by omega, ?_⟩ | refine ⟨fun _ _ => eqC_winS, ?_⟩ | refine ⟨fun _ _ => eqC_winM, ?_⟩ | refine ⟨fun _ _ => eqC_winB, ?_⟩ | refine ⟨fun _ _ => eqC_selfB, ?_⟩ | refine ⟨fun _ _ => eqC_mpB, ?_⟩)) ?_ (fun _ _ => trivial) ?_⟩
          · (repeat first | exact trivial | refine ⟨rfl, ?_⟩ | refine ⟨fun _ _ => ⟨rfl, trivial⟩, ?_⟩ | refine ⟨fun _ _ => trivial, ?_⟩ | refine ⟨by omega, ?_⟩ | refine ⟨fun _ _ => eqC_winS, ?_⟩ | refine ⟨fun _ _ => eqC_winM, ?_⟩ | refine ⟨fun _ _ => eqC_winB, ?_⟩ | refine ⟨fun _ _ => eqC_selfB, ?_⟩ | refine ⟨fun _ _ => eqC_mpB, ?_⟩)
            refine eqC_bts ?_
            (repeat first | exact trivial | refine ⟨rfl, ?_⟩ | refine ⟨fun _ _ => ⟨rfl, trivial⟩, ?_⟩ | refine ⟨fun _ _ => trivial, ?_⟩ | refine ⟨by omega, ?_⟩ | refine ⟨fun _ _ => eqC_winS, ?_⟩ | refine ⟨fun _ _ => eqC_winM, ?_⟩ | refine ⟨fun _ _ => eqC_winB, ?_⟩ | refine ⟨fun _ _ => eqC_selfB, ?_⟩ | refine ⟨fun _ _ => eqC_mpB, ?_⟩)
          · rintro x hs ⟨rfl, rfl⟩
            rw [hk1, hl1]
            refine ⟨⟨by omega, by omega⟩, 2, [0, 1, 2, 3, 4, 5, 6, 7, 8, 9], ⟨⟨rfl, rfl, rfl⟩, ?_⟩, by dsimp only; omega, by dsimp only; omega⟩
            (repeat first | exact trivial | refine ⟨rfl, ?_⟩ | refine ⟨fun _ _ => ⟨rfl, trivial⟩, ?_⟩ | refine ⟨fun _ _ => trivial, ?_⟩ | refine ⟨by omega, ?_⟩ | refine ⟨fun _ _ => eqC_winS, ?_⟩ | refine ⟨fun _ _ => eqC_winM, ?_⟩ | refine ⟨fun _ _ => eqC_winB, ?_⟩ | refine ⟨fun _ _ => eqC_selfB, ?_⟩ | refine ⟨fun _ _ => eqC_mpB, ?_⟩)
            refine eqC_bts (eqC_bts (eqC_bts (eqC_bts ⟨rfl, fun j hj => eqC_P123 hM, ?_⟩)))
            (repeat first | exact trivial | refine ⟨rfl, ?_⟩ | refine ⟨fun _ _ => ⟨rfl, trivial⟩, ?_⟩ | refine ⟨fun _ _ => trivial, ?_⟩ | refine ⟨by omega, ?_⟩ | refine ⟨fun _ _ => eqC_winS, ?_⟩ | refine ⟨fun _ _ => eqC_winM, ?_⟩ | refine ⟨fun _ _ => eqC_winB, ?_⟩ | refine ⟨fun _ _ => eqC_selfB, ?_⟩ | refine ⟨fun _ _ => eqC_mpB, ?_⟩)
        · obtain ⟨hk1, hl1⟩ := hl 2 l2 IN (by rw [← hps]; rfl)
          rw [hD] at hk1
          refine ⟨by kernel_rfl, call_same (fn_swrite z2 l2.length c2 N2 o2 (L l2) D (BitVec.ofNat 64 (IN ++ cat ps 2).length) hDl hN2 hc2 (fun h => by rw [hz2 h]; rfl)) [5, 3, 9] rfl (by (repeat first | exact trivial | refine ⟨rfl, ?_⟩ | refine ⟨fun _ _ => ⟨rfl, trivial⟩, ?_⟩ | refine ⟨fun _ _ => trivial, ?_⟩ | refine ⟨by omega, ?_⟩ | refine ⟨fun _ _ => eqC_winS, ?_⟩ | refine ⟨fun _ _ => eqC_winM, ?_⟩ | refine ⟨fun _ _ => eqC_winB, ?_⟩ | refine ⟨fun _ _ => eqC_selfB, ?_⟩ | refine ⟨fun _ _ => eqC_mpB, ?_⟩)) ?_ (fun _ _ => trivial) ?_⟩
          · (repeat first | exact trivial | refine ⟨rfl, ?_⟩ | refine ⟨fun _ _ => ⟨rfl, trivial⟩, ?_⟩ | refine ⟨fun _ _ => trivial, ?_⟩ | refine ⟨by omega, ?_⟩ | refine ⟨fun _ _ => eqC_winS, ?_⟩ | refine ⟨fun _ _ => eqC_winM, ?_⟩ | refine ⟨fun _ _ => eqC_winB, ?_⟩ | refine ⟨fun _ _ => eqC_selfB, ?_⟩ | refine ⟨fun _ _ => eqC_mpB, ?_⟩)
            refine eqC_bts ?_
            (repeat first | exact trivial | refine ⟨rfl, ?_⟩ | refine ⟨fun _ _ => ⟨rfl, trivial⟩, ?_⟩ | refine ⟨fun _ _ => trivial, ?_⟩ | refine ⟨by omega, ?_⟩ | refine ⟨fun _ _ => eqC_winS, ?_⟩ | refine ⟨fun _ _ => eqC_winM, ?_⟩ | refine ⟨fun _ _ => eqC_winB, ?_⟩ | refine ⟨fun _ _ => eqC_selfB, ?_⟩ | refine ⟨fun _ _ => eqC_mpB, ?_⟩)
          · rintro x hs ⟨rfl, rfl⟩
            rw [hk1, hl1]
            refine ⟨⟨by omega, by omega⟩, 3, [0, 1, 2, 3, 4, 5, 6, 7, 8, 9], ⟨⟨rfl, rfl, rfl⟩, ?_⟩, by dsimp only; omega, by dsimp only; omega⟩
            (repeat first | exact trivial | refine ⟨rfl, ?_⟩ | refine ⟨fun _ _ => ⟨rfl, trivial⟩, ?_⟩ | refine ⟨fun _ _ => trivial, ?_⟩ | refine ⟨by omega, ?_⟩ | refine ⟨fun _ _ => eqC_winS, ?_⟩ | refine ⟨fun _ _ => eqC_winM, ?_⟩ | refine ⟨fun _ _ => eqC_winB, ?_⟩ | refine ⟨fun _ _ => eqC_selfB, ?_⟩ | refine ⟨fun _ _ => eqC_mpB, ?_⟩)
            refine eqC_bts (eqC_bts (eqC_bts (eqC_bts ⟨rfl, fun j hj => eqC_P123 hM, ?_⟩)))
            (repeat first | exact trivial | refine ⟨rfl, ?_⟩ | refine ⟨fun _ _ => ⟨rfl, trivial⟩, ?_⟩ | refine ⟨fun _ _ => trivial, ?_⟩ | refine ⟨by omega, ?_⟩ | refine ⟨fun _ _ => eqC_winS, ?_⟩ | refine ⟨fun _ _ => eqC_winM, ?_⟩ | refine ⟨fun _ _ => eqC_winB, ?_⟩ | refine ⟨fun _ _ => eqC_selfB, ?_⟩ | refine ⟨fun _ _ => eqC_mpB, ?_⟩)
      · obtain rfl : k = m := by have : ¬ (k : Int) < (m : Int) := of_decide_eq_false h; have hk : k ≤ m := hk; omega
        obtain ⟨D, hD⟩ : ∃ D, pushL d0 (IN ++ cat ps k) = D := ⟨_, rfl⟩
        have hDl : D.h < 64 := by rw [← hD]; exact pushL_lt (by decide) _
        obtain ⟨S, hS⟩ : ∃ S, sumL (IN ++ cat ps k) = S := ⟨_, rfl⟩
        have hSl : S.length = 32 := by rw [← hS, sumL_len]
        have hSL : ∀ i, i < 32 → endV D (BitVec.ofNat 64 (IN ++ cat ps k).length) i = L S i := fun i hi => by rw [← hS, L_sumL _ hi, hD]
        have hM1 : markL ([] : Bs) (cat ps k) = sumL (OU ++ S) := by unfold markL; rw [hK, hIN, hOU, hS]
        rw [hD]
        refine ⟨by kernel_rfl, call_same (fn_send D (BitVec.ofNat 64 (IN ++ cat ps k).length) hDl) [5, 9] rfl (by (repeat first | exact trivial | refine ⟨rfl, ?_⟩ | refine ⟨fun _ _ => ⟨rfl, trivial⟩, ?_⟩ | refine ⟨fun _ _ => trivial, ?_⟩ | refine ⟨by omega, ?_⟩ | refine ⟨fun _ _ => eqC_winS, ?_⟩ | refine ⟨fun _ _ => eqC_winM, ?_⟩ | refine ⟨fun _ _ => eqC_winB, ?_⟩ | refine ⟨fun _ _ => eqC_selfB, ?_⟩ | refine ⟨fun _ _ => eqC_mpB, ?_⟩)) (by (repeat first | exact trivial | refine ⟨rfl, ?_⟩ | refine ⟨fun _ _ => ⟨rfl, trivial⟩, ?_⟩ | refine ⟨fun _ _ => trivial, ?_⟩ | refine ⟨by omega, ?_⟩ | refine ⟨fun _ _ => eqC_winS, ?_⟩ | refine ⟨fun _ _ => eqC_winM, ?_⟩ | refine ⟨fun _ _ => eqC_winB, ?_⟩ | refine ⟨fun _ _ => eqC_selfB, ?_⟩ | refine ⟨fun _ _ => eqC_mpB, ?_⟩)) (fun _ _ => trivial) ?_⟩
        rintro x hs ⟨rfl, V', P', h', a', rfl⟩
        (repeat first | refine ⟨by omega, ?_⟩ | refine ⟨by decide, ?_⟩ | refine ⟨idx8 _, ?_⟩ | refine ⟨lt8 (Nat.le_refl _) _, ?_⟩ | refine ⟨rfl, ?_⟩)
        refine ⟨some [], [], [(0, true), (1, true), (2, true), (3, false), (4, false)], [5], by kernel_rfl, ?_⟩
        (repeat first | refine ⟨by omega, ?_⟩ | refine ⟨by decide, ?_⟩ | refine ⟨idx8 _, ?_⟩ | refine ⟨lt8 (Nat.le_refl _) _, ?_⟩ | refine ⟨rfl, ?_⟩)
        refine call_same (fn_ssum3 false false true 64 32 0 0 0 0 64 32 0 OU S [] 2 2 2 1 first steps (.inr ⟨rfl, rfl, rfl⟩) (by omega) (by omega) (by decide) (by omega) (by omega) (by decide) (fun h => Bool.noConfusion h) (fun h => Bool.noConfusion h) (fun _ => rfl) (by decide) (by decide)) [8, 10, 10, 11, 5] rfl (by (repeat first | exact trivial | refine ⟨rfl, ?_⟩ | refine ⟨fun _ _ => ⟨rfl, trivial⟩, ?_⟩ | refine ⟨fun _ _ => trivial, ?_⟩ | refine ⟨by omega, ?_⟩ | refine ⟨fun _ _ => eqC_winS, ?_⟩ | refine ⟨fun _ _ => eqC_winM, ?_⟩ | refine ⟨fun _ _ => eqC_winB, ?_⟩ | refine ⟨fun _ _ => eqC_selfB, ?_⟩ | refine ⟨fun _ _ => eqC_mpB, ?_⟩)) ?_ (fun _ _ => trivial) ?_
        · (repeat first | exact trivial | refine ⟨rfl, ?_⟩ | refine ⟨fun _ _ => ⟨rfl, trivial⟩, ?_⟩ | refine ⟨fun _ _ => trivial, ?_⟩ | refine ⟨by omega, ?_⟩ | refine ⟨fun _ _ => eqC_winS, ?_⟩ | refine ⟨fun _ _ => eqC_winM, ?_⟩ | refine ⟨fun _ _ => eqC_winB, ?_⟩ | refine ⟨fun _ _ => eqC_selfB, ?_⟩ | refine ⟨fun _ _ => eqC_mpB, ?_⟩)
          refine ⟨fun j hj => eqC_win8 (fun i hi => rfl) j, ?_⟩
          (repeat first | exact trivial | refine ⟨rfl, ?_⟩ | refine ⟨fun _ _ => ⟨rfl, trivial⟩, ?_⟩ | refine ⟨fun _ _ => trivial, ?_⟩ | refine ⟨by omega, ?_⟩ | refine ⟨fun _ _ => eqC_winS, ?_⟩ | refine ⟨fun _ _ => eqC_winM, ?_⟩ | refine ⟨fun _ _ => eqC_winB, ?_⟩ | refine ⟨fun _ _ => eqC_selfB, ?_⟩ | refine ⟨fun _ _ => eqC_mpB, ?_⟩)
          refine ⟨fun j hj => eqC_win8 (fun i hi => hSL i (by omega)) j, ?_⟩
          (repeat first | exact trivial | refine ⟨rfl, ?_⟩ | refine ⟨fun _ _ => ⟨rfl, trivial⟩, ?_⟩ | refine ⟨fun _ _ => trivial, ?_⟩ | refine ⟨by omega, ?_⟩ | refine ⟨fun _ _ => eqC_winS, ?_⟩ | refine ⟨fun _ _ => eqC_winM, ?_⟩ | refine ⟨fun _ _ => eqC_winB, ?_⟩ | refine ⟨fun _ _ => eqC_selfB, ?_⟩ | refine ⟨fun _ _ => eqC_mpB, ?_⟩)
          refine ⟨fun j hj => eqC_parts (fun i hi => ?_) j, ?_⟩
          · have : i = 0 ∨ i = 1 := by omega
            rcases this with rfl | rfl
            · exact ⟨rfl, rfl, hOUl.symm, rfl, trivial⟩
            · exact ⟨rfl, rfl, hSl.symm, rfl, trivial⟩
          · (repeat first | exact trivial | refine ⟨rfl, ?_⟩ | refine ⟨fun _ _ => ⟨rfl, trivial⟩, ?_⟩ | refine ⟨fun _ _ => trivial, ?_⟩ | refine ⟨by omega, ?_⟩ | refine ⟨fun _ _ => eqC_winS, ?_⟩ | refine ⟨fun _ _ => eqC_winM, ?_⟩ | refine ⟨fun _ _ => eqC_winB, ?_⟩ | refine ⟨fun _ _ => eqC_selfB, ?_⟩ | refine ⟨fun _ _ => eqC_mpB, ?_⟩)
        rintro x hs ⟨rfl, rfl⟩
        (repeat first | refine ⟨by omega, ?_⟩ | refine ⟨by decide, ?_⟩ | refine ⟨idx8 _, ?_⟩ | refine ⟨lt8 (Nat.le_refl _) _, ?_⟩ | refine ⟨rfl, ?_⟩)
        have hcat : cat (ps3 OU S []) 2 = OU ++ S := by simp [cat, ps3]
        rw [hcat]
        refine ⟨.a (.agg [.row 32 fun i => .w8 (L (markL ([] : Bs) (cat ps k)) i)]), [bts true Nk ok ([] : Bs).length (L ([] : Bs)), bts z0 N0 o0 l0.length (L l0), bts z1 N1 o1 l1.length (L l1), bts z2 N2 o2 l2.length (L l2), [.row M (partsF k (nthC [.sn z0 1 0 o0 l0.length c0, .sn z1 2 0 o1 l1.length c1, .sn z2 3 0 o2 l2.length c2]))], shaT 1 0 first steps], ⟨[0, 1, 2, 3, 4, 5], ⟨rfl, rfl, rfl⟩, ?_⟩, rfl, rfl⟩
        rw [hM1]
        (repeat first | exact trivial | refine ⟨rfl, ?_⟩ | refine ⟨fun _ _ => ⟨rfl, trivial⟩, ?_⟩ | refine ⟨fun _ _ => trivial, ?_⟩ | refine ⟨by omega, ?_⟩ | refine ⟨fun _ _ => eqC_winS, ?_⟩ | refine ⟨fun _ _ => eqC_winM, ?_⟩ | refine ⟨fun _ _ => eqC_winB, ?_⟩ | refine ⟨fun _ _ => eqC_selfB, ?_⟩ | refine ⟨fun _ _ => eqC_mpB, ?_⟩)
        refine eqC_bts (eqC_bts (eqC_bts (eqC_bts ⟨rfl, fun j hj => eqC_P123 hM, ?_⟩)))
        (repeat first | exact trivial | refine ⟨rfl, ?_⟩ | refine ⟨fun _ _ => ⟨rfl, trivial⟩, ?_⟩ | refine ⟨fun _ _ => trivial, ?_⟩ | refine ⟨by omega, ?_⟩ | refine ⟨fun _ _ => eqC_winS, ?_⟩ | refine ⟨fun _ _ => eqC_winM, ?_⟩ | refine ⟨fun _ _ => eqC_winB, ?_⟩ | refine ⟨fun _ _ => eqC_selfB, ?_⟩ | refine ⟨fun _ _ => eqC_mpB, ?_⟩)
  | false =>
    have hrow := key_row [] key ok (min key.length 64) (by omega) (by omega) (winF ok key.length (L key)) (fun i hi => by rw [Nat.add_comm]; exact winF_at _ _ _ hi)
    have hd' := hd
    (repeat first | refine ⟨by omega, ?_⟩ | refine ⟨by decide, ?_⟩ | refine ⟨idx8 _, ?_⟩ | refine ⟨lt8 (Nat.le_refl _) _, ?_⟩ | refine ⟨rfl, ?_⟩ | refine ⟨by simp only [scale]; omega, ?_⟩)
    refine ⟨fun q => winF ok key.length (L key) (q + ok), ⟨fun h => Bool.noConfusion h, fun h => ⟨Nk, winF ok key.length (L key), [], rfl, by simp only [scale]; omega, fun _ _ => rfl⟩⟩, ?_⟩
    (repeat first | refine ⟨by omega, ?_⟩ | refine ⟨by decide, ?_⟩ | refine ⟨idx8 _, ?_⟩ | refine ⟨lt8 (Nat.le_refl _) _, ?_⟩ | refine ⟨rfl, ?_⟩ | refine ⟨by simp only [scale]; omega, ?_⟩)
    refine ⟨fun q => winF ok key.length (L key) (q + ok), ⟨fun h => Bool.noConfusion h, fun h => ⟨Nk, winF ok key.length (L key), [], rfl, by simp only [scale]; omega, fun _ _ => rfl⟩⟩, ?_⟩
    (repeat first | refine ⟨by omega, ?_⟩ | refine ⟨by decide, ?_⟩ | refine ⟨idx8 _, ?_⟩ | refine ⟨lt8 (Nat.le_refl _) _, ?_⟩ | refine ⟨rfl, ?_⟩ | refine ⟨by simp only [scale]; omega, ?_⟩)
    refine .inl ⟨Nat, fun k => ⟨[.a (.c (.p 5 0 0)), .any, .a (.c (.sl 4 0 0 m cm)), .any, .any, .any, .a (.c (.p 6 0 0)), .a (.c (.p 7 0 0)), .a (.c (.p 8 0 0)), .any, .any, .any, .any, .any, .any, .any, .any, .any, .any, .any, .any, .any, .any, .any, .any, .any, .any, .any, .any, .any, .any, .any, .a (.c (.int .i64 (↑k))), .any, .any, .any, .any, .any, .any, .any, .any, .any, .any, .any, .any, .any, .any, .any, .any, .any, .any, .any, .any, .any, .any, .any, .any, .any, .any, .any, .any, .any, .any, .any, .any], [bts false Nk ok key.length (L key), bts z0 N0 o0 l0.length (L l0), bts z1 N1 o1 l1.length (L l1), bts z2 N2 o2 l2.length (L l2), [.row M (partsF m (nthC [.sn z0 1 0 o0 l0.length c0, .sn z1 2 0 o1 l1.length c1, .sn z2 3 0 o2 l2.length c2]))], shaT dn 0 f s, [.row 32 fun _ => .w8 0#8], [.row 64 fun i => .w8 (if i < k then L key i ^^^ 0x36#8 else L key i)], [.row 64 fun i => .w8 (if i < k then L key i ^^^ 0x5c#8 else L key i)]]⟩,
      fun k => k ≤ 64, fun k => 64 - k, ⟨0, [0, 1, 2, 3, 4, 5, 6, 7, 8], ⟨⟨rfl, rfl, rfl⟩, ?_⟩, by omega⟩, fun k hk => ⟨fun h => ?_, fun h => ?_⟩⟩
    · (repeat first | exact trivial | refine ⟨rfl, ?_⟩ | refine ⟨fun _ _ => ⟨rfl, trivial⟩, ?_⟩ | refine ⟨fun _ _ => trivial, ?_⟩ | refine ⟨by omega, ?_⟩ | refine ⟨fun _ _ => eqC_winS, ?_⟩ | refine ⟨fun _ _ => eqC_winM, ?_⟩ | refine ⟨fun _ _ => eqC_winB, ?_⟩ | refine ⟨fun _ _ => eqC_selfB, ?_⟩ | refine ⟨fun _ _ => eqC_mpB, ?_⟩)
      refine eqC_bts (eqC_bts (eqC_bts ⟨rfl, fun j hj => eqC_P123 hM, ?_⟩))
      (repeat first | exact trivial | refine ⟨rfl, ?_⟩ | refine ⟨fun _ _ => ⟨rfl, trivial⟩, ?_⟩ | refine ⟨fun _ _ => trivial, ?_⟩ | refine ⟨by omega, ?_⟩ | refine ⟨fun _ _ => eqC_winS, ?_⟩ | refine ⟨fun _ _ => eqC_winM, ?_⟩ | refine ⟨fun _ _ => eqC_winB, ?_⟩ | refine ⟨fun _ _ => eqC_selfB, ?_⟩ | refine ⟨fun _ _ => eqC_mpB, ?_⟩)
      refine ⟨fun j hj => eqC_w8 ?_, ?_⟩
      · exact hrow j
      · refine ⟨rfl, fun j hj => eqC_w8 ?_, ?_⟩
        · exact hrow j
        · (repeat first | exact trivial | refine ⟨rfl, ?_⟩ | refine ⟨fun _ _ => ⟨rfl, trivial⟩, ?_⟩ | refine ⟨fun _ _ => trivial, ?_⟩ | refine ⟨by omega, ?_⟩ | refine ⟨fun _ _ => eqC_winS, ?_⟩ | refine ⟨fun _ _ => eqC_winM, ?_⟩ | refine ⟨fun _ _ => eqC_winB, ?_⟩ | refine ⟨fun _ _ => eqC_selfB, ?_⟩ | refine ⟨fun _ _ => eqC_mpB, ?_⟩)
    · have hlt : (k : Int) < 64 := of_decide_eq_true h
      (repeat first | refine ⟨by omega, ?_⟩ | refine ⟨by decide, ?_⟩ | refine ⟨idx8 _, ?_⟩ | refine ⟨lt8 (Nat.le_refl _) _, ?_⟩)
      refine ⟨rfl, ?_⟩
      (repeat first | refine ⟨by omega, ?_⟩ | refine ⟨by decide, ?_⟩ | refine ⟨idx8 _, ?_⟩ | refine ⟨lt8 (Nat.le_refl _) _, ?_⟩)
      refine ⟨rfl, ⟨by omega, by omega⟩, k + 1, [0, 1, 2, 3, 4, 5, 6, 7, 8], ⟨⟨rfl, rfl, rfl⟩, ?_⟩, by dsimp only; omega, by dsimp only; omega⟩
      (repeat first | exact trivial | refine ⟨rfl, ?_⟩ | refine ⟨fun _ _ => ⟨rfl, trivial⟩, ?_⟩ | refine ⟨fun _ _ => trivial, ?_⟩ | refine ⟨by omega, ?_⟩ | refine ⟨fun _ _ => eqC_winS, ?_⟩ | refine ⟨fun _ _ => eqC_winM, ?_⟩ | refine ⟨fun _ _ => eqC_winB, ?_⟩ | refine ⟨fun _ _ => eqC_selfB, ?_⟩ | refine ⟨fun _ _ => eqC_mpB, ?_⟩)
      refine eqC_bts (eqC_bts (eqC_bts ⟨rfl, fun j hj => eqC_P123 hM, ?_⟩))
      (repeat first | exact trivial | refine ⟨rfl, ?_⟩ | refine ⟨fun _ _ => ⟨rfl, trivial⟩, ?_⟩ | refine ⟨fun _ _ => trivial, ?_⟩ | refine ⟨by omega, ?_⟩ | refine ⟨fun _ _ => eqC_winS, ?_⟩ | refine ⟨fun _ _ => eqC_winM, ?_⟩ | refine ⟨fun _ _ => eqC_winB, ?_⟩ | refine ⟨fun _ _ => eqC_selfB, ?_⟩ | refine ⟨fun _ _ => eqC_mpB, ?_⟩)
      have e0 : (k : Int).toNat + 0 = k := by omega
      rw [e0]
      have hx : ∀ (x : BitVec 8) (j : Nat), eqC [0, 1, 2, 3, 4, 5, 6, 7, 8] (upd (fun i => SC.w8 (if i < k then L key i ^^^ x else L key i)) k (.w8 ((if k < k then L key k ^^^ x else L key k) ^^^ x)) j) (.w8 (if j < k + 1 then L key j ^^^ x else L key j)) True := fun x j => by
        unfold upd
        by_cases hj : j = k
        · rw [if_pos hj, if_neg (Nat.lt_irrefl k), hj, if_pos (by omega)]; exact ⟨rfl, trivial⟩
        · have : j < k + 1 ↔ j < k := by omega
          rw [if_neg hj]; simp only [this]; exact ⟨rfl, trivial⟩
      exact ⟨fun j hj => hx _ j, rfl, fun j hj => hx _ j, by (repeat first | exact trivial | refine ⟨rfl, ?_⟩ | refine ⟨fun _ _ => ⟨rfl, trivial⟩, ?_⟩ | refine ⟨fun _ _ => trivial, ?_⟩ | refine ⟨by omega, ?_⟩ | refine ⟨fun _ _ => eqC_winS, ?_⟩ | refine ⟨fun _ _ => eqC_winM, ?_⟩ | refine ⟨fun _ _ => eqC_winB, ?_⟩ | refine ⟨fun _ _ => eqC_selfB, ?_⟩ | refine ⟨fun _ _ => eqC_mpB, ?_⟩)⟩
    · obtain rfl : k = 64 := by have : ¬ (k : Int) < 64 := of_decide_eq_false h; have hk : k ≤ 64 := hk; omega
      refine ⟨by kernel_rfl, call_same (fn_begin dn f s hd') [5] rfl (by (repeat first | exact trivial | refine ⟨rfl, ?_⟩ | refine ⟨fun _ _ => ⟨rfl, trivial⟩, ?_⟩ | refine ⟨fun _ _ => trivial, ?_⟩ | refine ⟨by omega, ?_⟩ | refine ⟨fun _ _ => eqC_winS, ?_⟩ | refine ⟨fun _ _ => eqC_winM, ?_⟩ | refine ⟨fun _ _ => eqC_winB, ?_⟩ | refine ⟨fun _ _ => eqC_selfB, ?_⟩ | refine ⟨fun _ _ => eqC_mpB, ?_⟩)) (by (repeat first | exact trivial | refine ⟨rfl, ?_⟩ | refine ⟨fun _ _ => ⟨rfl, trivial⟩, ?_⟩ | refine ⟨fun _ _ => trivial, ?_⟩ | refine ⟨by omega, ?_⟩ | refine ⟨fun _ _ => eqC_winS, ?_⟩ | refine ⟨fun _ _ => eqC_winM, ?_⟩ | refine ⟨fun _ _ => eqC_winB, ?_⟩ | refine ⟨fun _ _ => eqC_selfB, ?_⟩ | refine ⟨fun _ _ => eqC_mpB, ?_⟩)) (fun _ _ => trivial) ?_⟩
      rintro x hs ⟨rfl, rfl⟩
      obtain ⟨IN, hIN⟩ : ∃ IN, padL 0x36#8 key = IN := ⟨_, rfl⟩
      obtain ⟨OU, hOU⟩ : ∃ OU, padL 0x5c#8 key = OU := ⟨_, rfl⟩
      have hINl : IN.length = 64 := by rw [← hIN, padL_len]
      have hOUl : OU.length = 64 := by rw [← hOU, padL_len]
      have hINi : ∀ i, i < 64 → (if i < 64 then L key i ^^^ 0x36#8 else L key i) = L IN i := fun i hi => by rw [if_pos hi, ← hIN]; exact (L_tab (b := fun i => L key i ^^^ 0x36#8) hi).symm
      have hOUi : ∀ i, i < 64 → (if i < 64 then L key i ^^^ 0x5c#8 else L key i) = L OU i := fun i hi => by rw [if_pos hi, ← hOU]; exact (L_tab (b := fun i => L key i ^^^ 0x5c#8) hi).symm
      (repeat first | refine ⟨by omega, ?_⟩ | refine ⟨by decide, ?_⟩ | refine ⟨idx8 _, ?_⟩ | refine ⟨lt8 (Nat.le_refl _) _, ?_⟩ | refine ⟨rfl, ?_⟩)
      have hsw := fn_swrite false 64 64 64 0 (L IN) d0 0 (by decide) (by omega) (by omega) (fun h => Bool.noConfusion h)
      have e1 : pushN d0 (L IN) 64 = pushL d0 (IN ++ cat ps 0) := by rw [← hINl, pushN_L]; simp [cat]
      have e2 : (0 : BitVec 64) + BitVec.ofNat 64 64 = BitVec.ofNat 64 (IN ++ cat ps 0).length := by simp [cat, hINl]
      rw [e1, e2] at hsw
      refine call_same hsw [5, 7, 9] rfl (by (repeat first | exact trivial | refine ⟨rfl, ?_⟩ | refine ⟨fun _ _ => ⟨rfl, trivial⟩, ?_⟩ | refine ⟨fun _ _ => trivial, ?_⟩ | refine ⟨by omega, ?_⟩ | refine ⟨fun _ _ => eqC_winS, ?_⟩ | refine ⟨fun _ _ => eqC_winM, ?_⟩ | refine ⟨fun _ _ => eqC_winB, ?_⟩ | refine ⟨fun _ _ => eqC_selfB, ?_⟩ | refine ⟨fun _ _ => eqC_mpB, ?_⟩)) ?_ (fun _ _ => trivial) ?_
      · (repeat first | exact trivial | refine ⟨rfl, ?_⟩ | refine ⟨fun _ _ => ⟨rfl, trivial⟩, ?_⟩ | refine ⟨fun _ _ => trivial, ?_⟩ | refine ⟨by omega, ?_⟩ | refine ⟨fun _ _ => eqC_winS, ?_⟩ | refine ⟨fun _ _ => eqC_winM, ?_⟩ | refine ⟨fun _ _ => eqC_winB, ?_⟩ | refine ⟨fun _ _ => eqC_selfB, ?_⟩ | refine ⟨fun _ _ => eqC_mpB, ?_⟩)
        refine ⟨fun j hj => eqC_win (f := fun i => SC.w8 (if i < 64 then L key i ^^^ 0x36#8 else L key i)) (fun i hi => congrArg SC.w8 ?_) j, ?_⟩
        · rw [Nat.zero_add]; exact hINi i hi
        · (repeat first | exact trivial | refine ⟨rfl, ?_⟩ | refine ⟨fun _ _ => ⟨rfl, trivial⟩, ?_⟩ | refine ⟨fun _ _ => trivial, ?_⟩ | refine ⟨by omega, ?_⟩ | refine ⟨fun _ _ => eqC_winS, ?_⟩ | refine ⟨fun _ _ => eqC_winM, ?_⟩ | refine ⟨fun _ _ => eqC_winB, ?_⟩ | refine ⟨fun _ _ => eqC_selfB, ?_⟩ | refine ⟨fun _ _ => eqC_mpB, ?_⟩)
      rintro x hs ⟨rfl, rfl⟩
      (repeat first | refine ⟨by omega, ?_⟩ | refine ⟨by decide, ?_⟩ | refine ⟨idx8 _, ?_⟩ | refine ⟨lt8 (Nat.le_refl _) _, ?_⟩ | refine ⟨rfl, ?_⟩)
      refine .inl ⟨Nat, fun k => ⟨[.a (.c (.p 5 0 0)), .any, .any, .any, .any, .any, .a (.c (.p 6 0 0)), .any, .a (.c (.p 8 0 0)), .any, .any, .a (.c (.p 9 0 0)), .any, .any, .any, .any, .any, .any, .any, .any, .any, .any, .any, .any, .any, .any, .any, .any, .any, .any, .any, .any, .any, .any, .any, .any, .any, .any, .any, .any, .any, .any, .any, .any, .any, .any, .any, .any, .any, .any, .a (.c (.sl 4 0 0 m cm)), .a (.c (.int .i64 (↑m))), .a (.c (.int .i64 (↑k))), .any, .any, .any, .any, .any, .any, .any, .any, .any, .any, .any, .any], [bts false Nk ok key.length (L key), bts z0 N0 o0 l0.length (L l0), bts z1 N1 o1 l1.length (L l1), bts z2 N2 o2 l2.length (L l2), [.row M (partsF m (nthC [.sn z0 1 0 o0 l0.length c0, .sn z1 2 0 o1 l1.length c1, .sn z2 3 0 o2 l2.length c2]))], shaT 1 0 first steps, [.row 32 fun _ => .w8 0#8], [], [.row 64 fun i => .w8 (L OU i)], digC 5 (pushL d0 (IN ++ cat ps k)).V (pushL d0 (IN ++ cat ps k)).P (pushL d0 (IN ++ cat ps k)).h (BitVec.ofNat 64 (IN ++ cat ps k).length)]⟩,
        fun k => k ≤ m, fun k => m - k, ⟨0, [0, 1, 2, 3, 4, 5, 6, 7, 8, 9], ⟨⟨rfl, rfl, rfl⟩, ?_⟩, by omega⟩, fun k hk => ⟨fun h => ?_, fun h => ?_⟩⟩
      · (repeat first | exact trivial | refine ⟨rfl, ?_⟩ | refine ⟨fun _ _ => ⟨rfl, trivial⟩, ?_⟩ | refine ⟨fun _ _ => trivial, ?_⟩ | refine ⟨by omega, ?_⟩ | refine ⟨fun _ _ => eqC_winS, ?_⟩ | refine ⟨fun _ _ => eqC_winM, ?_⟩ | refine ⟨fun _ _ => eqC_winB, ?_⟩ | refine ⟨fun _ _ => eqC_selfB, ?_⟩ | refine ⟨fun _ _ => eqC_mpB, ?_⟩)
        refine eqC_bts (eqC_bts (eqC_bts ⟨rfl, fun j hj => eqC_P123 hM, ?_⟩))
        (repeat first | exact trivial | refine ⟨rfl, ?_⟩ | refine ⟨fun _ _ => ⟨rfl, trivial⟩, ?_⟩ | refine ⟨fun _ _ => trivial, ?_⟩ | refine ⟨by omega, ?_⟩ | refine ⟨fun _ _ => eqC_winS, ?_⟩ | refine ⟨fun _ _ => eqC_winM, ?_⟩ | refine ⟨fun _ _ => eqC_winB, ?_⟩ | refine ⟨fun _ _ => eqC_selfB, ?_⟩ | refine ⟨fun _ _ => eqC_mpB, ?_⟩)
        refine ⟨fun j hj => eqC_w8 (congrArg SC.w8 (hOUi j hj)), ?_⟩
        (repeat first | exact trivial | refine ⟨rfl, ?_⟩ | refine ⟨fun _ _ => ⟨rfl, trivial⟩, ?_⟩ | refine ⟨fun _ _ => trivial, ?_⟩ | refine ⟨by omega, ?_⟩ | refine ⟨fun _ _ => eqC_winS, ?_⟩ | refine ⟨fun _ _ => eqC_winM, ?_⟩ | refine ⟨fun _ _ => eqC_winB, ?_⟩ | refine ⟨fun _ _ => eqC_selfB, ?_⟩ | refine ⟨fun _ _ => eqC_mpB, ?_⟩)
      · have hlt : k < m := by have : (k : Int) < (m : Int) := of_decide_eq_true h; omega
        (repeat first | refine ⟨by omega, ?_⟩ | refine ⟨by decide, ?_⟩ | refine ⟨idx8 _, ?_⟩ | refine ⟨lt8 (Nat.le_refl _) _, ?_⟩)
        have e3 : (k : Int).toNat + 0 = k := by omega
        rw [e3]
        refine frc_parts hlt ?_
        obtain ⟨D, hD⟩ : ∃ D, pushL d0 (IN ++ cat ps k) = D := ⟨_, rfl⟩
        have hDl : D.h < 64 := by rw [← hD]; exact pushL_lt (by decide) _
        rw [hD]
        have hk3 : k = 0 ∨ k = 1 ∨ k = 2 := by omega
        rcases hk3 with rfl | rfl | rfl
        · obtain ⟨hk1, hl1⟩ := hl 0 l0 IN (by rw [← hps]; rfl)
          rw [hD] at hk1
          refine ⟨by kernel_rfl, call_same (fn_swrite z0 l0.length c0 N0 o0 (L l0) D (BitVec.ofNat 64 (IN ++ cat ps 0).length) hDl hN0 hc0 (fun h => by rw [hz0 h]; rfl)) [5, 1, 9] rfl (by (repeat first | exact trivial | refine ⟨rfl, ?_⟩ | refine ⟨fun _ _ => ⟨rfl, trivial⟩, ?_⟩ | refine ⟨fun _ _ => trivial, ?_⟩ | refine ⟨by omega, ?_⟩ | refine ⟨fun _ _ => eqC_winS, ?_⟩ | refine ⟨fun _ _ => eqC_winM, ?_⟩ | refine ⟨fun _ _ => eqC_winB, ?_⟩ | refine ⟨fun _ _ => eqC_selfB, ?_⟩ | refine ⟨fun _ _ => eqC_mpB, ?_⟩)) ?_ (fun _ _ => trivial) ?_⟩
          · (repeat first | exact trivial | refine ⟨rfl, ?_⟩ | refine ⟨fun _ _ => ⟨rfl, trivial⟩, ?_⟩ | refine ⟨fun _ _ => trivial, ?_⟩ | refine ⟨by omega, ?_⟩ | refine ⟨fun _ _ => eqC_winS, ?_⟩ | refine ⟨fun _ _ => eqC_winM, ?_⟩ | refine ⟨fun _ _ => eqC_winB, ?_⟩ | refine ⟨fun _ _ => eqC_selfB, ?_⟩ | refine ⟨fun _ _ => eqC_mpB, ?_⟩)
            refine eqC_bts ?_
            (repeat first | exact trivial | refine ⟨rfl, ?_⟩ | refine ⟨fun _ _ => ⟨rfl, trivial⟩, ?_⟩ | refine ⟨fun _ _ => trivial, ?_⟩ | refine ⟨by omega, ?_⟩ | refine ⟨fun _ _ => eqC_winS, ?_⟩ | refine ⟨fun _ _ => eqC_winM, ?_⟩ | refine ⟨fun _ _ => eqC_winB, ?_⟩ | refine ⟨fun _ _ => eqC_selfB, ?_⟩ | refine ⟨fun _ _ => eqC_mpB, ?_⟩)
          · rintro x hs ⟨rfl, rfl⟩
            rw [hk1, hl1]
            refine ⟨⟨by omega, by omega⟩, 1, [0, 1, 2, 3, 4, 5, 6, 7, 8, 9], ⟨⟨rfl, rfl, rfl⟩, ?_⟩, by dsimp only; omega, by dsimp only; omega⟩
            (repeat first | exact trivial | refine ⟨rfl, ?_⟩ | refine ⟨fun _ _ => ⟨rfl, trivial⟩, ?_⟩ | refine ⟨fun _ _ => trivial, ?_⟩ | refine ⟨by omega, ?_⟩ | refine ⟨fun _ _ => eqC_winS, ?_⟩ | refine ⟨fun _ _ => eqC_winM, ?_⟩ | refine ⟨fun _ _ => eqC_winB, ?_⟩ | refine ⟨fun _ _ => eqC_selfB, ?_⟩ | refine ⟨fun _ _ => eqC_mpB, ?_⟩)
            refine eqC_bts (eqC_bts (eqC_bts ⟨rfl, fun j hj => eqC_P123 hM, ?_⟩))
            (repeat first | exact trivial | refine ⟨rfl, ?_⟩ | refine ⟨fun _ _ => ⟨rfl, trivial⟩, ?_⟩ | refine ⟨fun _ _ => trivial, ?_⟩ | refine ⟨by omega, ?_⟩ | refine ⟨fun _ _ => eqC_winS, ?_⟩ | refine ⟨fun _ _ => eqC_winM, ?_⟩ | refine ⟨fun _ _ => eqC_winB, ?_⟩ | refine ⟨fun _ _ => eqC_selfB, ?_⟩ | refine ⟨fun _ _ => eqC_mpB, ?_⟩)
        · obtain ⟨hk1, hl1⟩ := hl 1 l1 IN (by rw [← hps]; rfl)
          rw [hD] at hk1
          refine ⟨by kernel_rfl, call_same (fn_swrite z1 l1.length c1 N1 o1 (L l1) D (BitVec.ofNat 64 (IN ++ cat ps 1).length) hDl hN1 hc1 (fun h => by rw [hz1 h]; rfl)) [5, 2, 9] rfl (by (repeat first | exact trivial | refine ⟨rfl, ?_⟩ | refine ⟨fun _ _ => ⟨rfl, trivial⟩, ?_⟩ | refine ⟨fun _ _ => trivial, ?_⟩ | refine ⟨by omega, ?_⟩ | refine ⟨fun _ _ => eqC_winS, ?_⟩ | refine ⟨fun _ _ => eqC_winM, ?_⟩ | refine ⟨fun _ _ => eqC_winB, ?_⟩ | refine ⟨fun _ _ => eqC_selfB, ?_⟩ | refine ⟨fun _ _ => eqC_mpB, ?_⟩)) ?_ (fun _ _ => trivial) ?_⟩
          · (repeat first | exact trivial | refine ⟨rfl, ?_⟩ | refine ⟨fun _ _ => ⟨rfl, trivial⟩, ?_⟩ | refine ⟨fun _ _ => trivial, ?_⟩ | refine ⟨by omega, ?_⟩ | refine ⟨fun _ _ => eqC_winS, ?_⟩ | refine ⟨fun _ _ => eqC_winM, ?_⟩ | refine ⟨fun _ _ => eqC_winB, ?_⟩ | refine ⟨fun _ _ => eqC_selfB, ?_⟩ | refine ⟨fun _ _ => eqC_mpB, ?_⟩)
            refine eqC_bts ?_
            (repeat first | exact trivial | refine ⟨rfl, ?_⟩ | refine ⟨fun _ _ => ⟨rfl, trivial⟩, ?_⟩ | refine ⟨fun _ _ => trivial, ?_⟩ | refine ⟨by omega, ?_⟩ | refine ⟨fun _ _ => eqC_winS, ?_⟩ | refine ⟨fun _ _ => eqC_winM, ?_⟩ | refine ⟨fun _ _ => eqC_winB, ?_⟩ | refine ⟨fun _ _ => eqC_selfB, ?_⟩ | refine ⟨fun _ _ => eqC_mpB, ?_⟩)
          · rintro x hs ⟨rfl, rfl⟩
            rw [hk1, hl1]
            refine ⟨⟨by omega, by omega⟩, 2, [0, 1, 2, 3, 4, 5, 6, 7, 8, 9], ⟨⟨rfl, rfl, rfl⟩, ?_⟩, by dsimp only; omega, by dsimp only; omega⟩
            (repeat first | exact trivial | refine ⟨rfl, ?_⟩ | refine ⟨fun _ _ => ⟨rfl, trivial⟩, ?_⟩ | refine ⟨fun _ _ => trivial, ?_⟩ | refine ⟨by omega, ?_⟩ | refine ⟨fun _ _ => eqC_winS, ?_⟩ | refine ⟨fun _ _ => eqC_winM, ?_⟩ | refine ⟨fun _ _ => eqC_winB, ?_⟩ | refine ⟨fun _ _ => eqC_selfB, ?_⟩ | refine ⟨fun _ _ => eqC_mpB, ?_⟩)
            refine eqC_bts (eqC_bts (eqC_bts ⟨rfl, fun j hj => eqC_P123 hM, ?_⟩))
            (repeat first | exact trivial | refine ⟨rfl, ?_⟩ | refine ⟨fun _ _ => ⟨rfl, trivial⟩, ?_⟩ | refine ⟨fun _ _ => trivial, ?_⟩ | refine ⟨by omega, ?_⟩ | refine ⟨fun _ _ => eqC_winS, ?_⟩ | refine ⟨fun _ _ => eqC_winM, ?_⟩ | refine ⟨fun _ _ => eqC_winB, ?_⟩ | refine ⟨fun _ _ => eqC_selfB, ?_⟩ | refine ⟨fun _ _ => eqC_mpB, ?_⟩)
        · obtain ⟨hk1, hl1⟩ := hl 2 l2 IN (by rw [← hps]; rfl)
          rw [hD] at hk1
          refine ⟨by kernel_rfl, call_same (fn_swrite z2 l2.length c2 N2 o2 (L l2) D (BitVec.ofNat 64 (IN ++ cat ps 2).length) hDl hN2 hc2 (fun h => by rw [hz2 h]; rfl)) [5, 3, 9] rfl (by (repeat first | exact trivial | refine ⟨rfl, ?_⟩ | refine ⟨fun _ _ => ⟨rfl, trivial⟩, ?_⟩ | refine ⟨fun _ _ => trivial, ?_⟩ | refine ⟨by omega, ?_⟩ | refine ⟨fun _ _ => eqC_winS, ?_⟩ | refine ⟨fun _ _ => eqC_winM, ?_⟩ | refine ⟨fun _ _ => eqC_winB, ?_⟩ | refine ⟨fun _ _ => eqC_selfB, ?_⟩ | refine ⟨fun _ _ => eqC_mpB, ?_⟩)) ?_ (fun _ _ => trivial) ?_⟩
          · (repeat first | exact trivial | refine ⟨rfl, ?_⟩ | refine ⟨fun _ _ => ⟨rfl, trivial⟩, ?_⟩ | refine ⟨fun _ _ => trivial, ?_⟩ | refine ⟨by omega, ?_⟩ | refine ⟨fun _ _ => eqC_winS, ?_⟩ | refine ⟨fun _ _ => eqC_winM, ?_⟩ | refine ⟨fun _ _ => eqC_winB, ?_⟩ | refine ⟨fun _ _ => eqC_selfB, ?_⟩ | refine ⟨fun _ _ => eqC_mpB, ?_⟩)
            refine eqC_bts ?_
            (repeat first | exact trivial | refine ⟨rfl, ?_⟩ | refine ⟨fun _ _ => ⟨rfl, trivial⟩, ?_⟩ | refine ⟨fun _ _ => trivial, ?_⟩ | refine ⟨by omega, ?_⟩ | refine ⟨fun _ _ => eqC_winS, ?_⟩ | refine ⟨fun _ _ => eqC_winM, ?_⟩ | refine ⟨fun _ _ => eqC_winB, ?_⟩ | refine ⟨fun _ _ => eqC_selfB, ?_⟩ | refine ⟨fun _ _ => eqC_mpB, ?_⟩)
          · rintro x hs ⟨rfl, rfl⟩
            rw [hk1, hl1]
            refine ⟨⟨by omega, by omega⟩, 3, [0, 1, 2, 3, 4, 5, 6, 7, 8, 9], ⟨⟨rfl, rfl, rfl⟩, ?_⟩, by dsimp only; omega, by dsimp only; omega⟩
            (repeat first | exact trivial | refine ⟨rfl, ?_⟩ | refine ⟨fun _ _ => ⟨rfl, trivial⟩, ?_⟩ | refine ⟨fun _ _ => trivial, ?_⟩ | refine ⟨by omega, ?_⟩ | refine ⟨fun _ _ => eqC_winS, ?_⟩ | refine ⟨fun _ _ => eqC_winM, ?_⟩ | refine ⟨fun _ _ => eqC_winB, ?_⟩ | refine ⟨fun _ _ => eqC_selfB, ?_⟩ | refine ⟨fun _ _ => eqC_mpB, ?_⟩)
            refine eqC_bts (eqC_bts (eqC_bts ⟨rfl, fun j hj => eqC_P123 hM, ?_⟩))
            (repeat first | exact trivial | refine ⟨rfl, ?_⟩ | refine ⟨fun _ _ => ⟨rfl, trivial⟩, ?_⟩ | refine ⟨fun _ _ => trivial, ?_⟩ | refine ⟨by omega, ?_⟩ | refine ⟨fun _ _ => eqC_winS, ?_⟩ | refine ⟨fun _ _ => eqC_winM, ?_⟩ | refine ⟨fun _ _ => eqC_winB, ?_⟩ | refine ⟨fun _ _ => eqC_selfB, ?_⟩ | refine ⟨fun _ _ => eqC_mpB, ?_⟩)
      · obtain rfl : k = m := by have : ¬ (k : Int) < (m : Int) := of_decide_eq_false h; have hk : k ≤ m := hk; omega
        obtain ⟨D, hD⟩ : ∃ D, pushL d0 (IN ++ cat ps k) = D := ⟨_, rfl⟩
        have hDl : D.h < 64 := by rw [← hD]; exact pushL_lt (by decide) _
        obtain ⟨S, hS⟩ : ∃ S, sumL (IN ++ cat ps k) = S := ⟨_, rfl⟩
        have hSl : S.length = 32 := by rw [← hS, sumL_len]
        have hSL : ∀ i, i < 32 → endV D (BitVec.ofNat 64 (IN ++ cat ps k).length) i = L S i := fun i hi => by rw [← hS, L_sumL _ hi, hD]
        have hM1 : markL key (cat ps k) = sumL (OU ++ S) := by unfold markL; rw [hK, hIN, hOU, hS]
        rw [hD]
        refine ⟨by kernel_rfl, call_same (fn_send D (BitVec.ofNat 64 (IN ++ cat ps k).length) hDl) [5, 9] rfl (by (repeat first | exact trivial | refine ⟨rfl, ?_⟩ | refine ⟨fun _ _ => ⟨rfl, trivial⟩, ?_⟩ | refine ⟨fun _ _ => trivial, ?_⟩ | refine ⟨by omega, ?_⟩ | refine ⟨fun _ _ => eqC_winS, ?_⟩ | refine ⟨fun _ _ => eqC_winM, ?_⟩ | refine ⟨fun _ _ => eqC_winB, ?_⟩ | refine ⟨fun _ _ => eqC_selfB, ?_⟩ | refine ⟨fun _ _ => eqC_mpB, ?_⟩)) (by (repeat first | exact trivial | refine ⟨rfl, ?_⟩ | refine ⟨fun _ _ => ⟨rfl, trivial⟩, ?_⟩ | refine ⟨fun _ _ => trivial, ?_⟩ | refine ⟨by omega, ?_⟩ | refine ⟨fun _ _ => eqC_winS, ?_⟩ | refine ⟨fun _ _ => eqC_winM, ?_⟩ | refine ⟨fun _ _ => eqC_winB, ?_⟩ | refine ⟨fun _ _ => eqC_selfB, ?_⟩ | refine ⟨fun _ _ => eqC_mpB, ?_⟩)) (fun _ _ => trivial) ?_⟩
        rintro x hs ⟨rfl, V', P', h', a', rfl⟩
        (repeat first | refine ⟨by omega, ?_⟩ | refine ⟨by decide, ?_⟩ | refine ⟨idx8 _, ?_⟩ | refine ⟨lt8 (Nat.le_refl _) _, ?_⟩ | refine ⟨rfl, ?_⟩)
        refine ⟨some [], [], [(0, true), (1, true), (2, true), (3, false), (4, false)], [5], by kernel_rfl, ?_⟩
        (repeat first | refine ⟨by omega, ?_⟩ | refine ⟨by decide, ?_⟩ | refine ⟨idx8 _, ?_⟩ | refine ⟨lt8 (Nat.le_refl _) _, ?_⟩ | refine ⟨rfl, ?_⟩)
        refine call_same (fn_ssum3 false false true 64 32 0 0 0 0 64 32 0 OU S [] 2 2 2 1 first steps (.inr ⟨rfl, rfl, rfl⟩) (by omega) (by omega) (by decide) (by omega) (by omega) (by decide) (fun h => Bool.noConfusion h) (fun h => Bool.noConfusion h) (fun _ => rfl) (by decide) (by decide)) [8, 10, 10, 11, 5] rfl (by (repeat first | exact trivial | refine ⟨rfl, ?_⟩ | refine ⟨fun _ _ => ⟨rfl, trivial⟩, ?_⟩ | refine ⟨fun _ _ => trivial, ?_⟩ | refine ⟨by omega, ?_⟩ | refine ⟨fun _ _ => eqC_winS, ?_⟩ | refine ⟨fun _ _ => eqC_winM, ?_⟩ | refine ⟨fun _ _ => eqC_winB, ?_⟩ | refine ⟨fun _ _ => eqC_selfB, ?_⟩ | refine ⟨fun _ _ => eqC_mpB, ?_⟩)) ?_ (fun _ _ => trivial) ?_
        · (repeat first | exact trivial | refine ⟨rfl, ?_⟩ | refine ⟨fun _ _ => ⟨rfl, trivial⟩, ?_⟩ | refine ⟨fun _ _ => trivial, ?_⟩ | refine ⟨by omega, ?_⟩ | refine ⟨fun _ _ => eqC_winS, ?_⟩ | refine ⟨fun _ _ => eqC_winM, ?_⟩ | refine ⟨fun _ _ => eqC_winB, ?_⟩ | refine ⟨fun _ _ => eqC_selfB, ?_⟩ | refine ⟨fun _ _ => eqC_mpB, ?_⟩)
          refine ⟨fun j hj => eqC_win8 (fun i hi => rfl) j, ?_⟩
          (repeat first | exact trivial | refine ⟨rfl, ?_⟩ | refine ⟨fun _ _ => ⟨rfl, trivial⟩, ?_⟩ | refine ⟨fun _ _ => trivial, ?_⟩ | refine ⟨by omega, ?_⟩ | refine ⟨fun _ _ => eqC_winS, ?_⟩ | refine ⟨fun _ _ => eqC_winM, ?_⟩ | refine ⟨fun _ _ => eqC_winB, ?_⟩ | refine ⟨fun _ _ => eqC_selfB, ?_⟩ | refine ⟨fun _ _ => eqC_mpB, ?_⟩)
          refine ⟨fun j hj => eqC_win8 (fun i hi => hSL i (by omega)) j, ?_⟩
          (repeat first | exact trivial | refine ⟨rfl, ?_⟩ | refine ⟨fun _ _ => ⟨rfl, trivial⟩, ?_⟩ | refine ⟨fun _ _ => trivial, ?_⟩ | refine ⟨by omega, ?_⟩ | refine ⟨fun _ _ => eqC_winS, ?_⟩ | refine ⟨fun _ _ => eqC_winM, ?_⟩ | refine ⟨fun _ _ => eqC_winB, ?_⟩ | refine ⟨fun _ _ => eqC_selfB, ?_⟩ | refine ⟨fun _ _ => eqC_mpB, ?_⟩)
          refine ⟨fun j hj => eqC_parts (fun i hi => ?_) j, ?_⟩
          · have : i = 0 ∨ i = 1 := by omega
            rcases this with rfl | rfl
            · exact ⟨rfl, rfl, hOUl.symm, rfl, trivial⟩
            · exact ⟨rfl, rfl, hSl.symm, rfl, trivial⟩
          · (repeat first | exact trivial | refine ⟨rfl, ?_⟩ | refine ⟨fun _ _ => ⟨rfl, trivial⟩, ?_⟩ | refine ⟨fun _ _ => trivial, ?_⟩ | refine ⟨by omega, ?_⟩ | refine ⟨fun _ _ => eqC_winS, ?_⟩ | refine ⟨fun _ _ => eqC_winM, ?_⟩ | refine ⟨fun _ _ => eqC_winB, ?_⟩ | refine ⟨fun _ _ => eqC_selfB, ?_⟩ | refine ⟨fun _ _ => eqC_mpB, ?_⟩)
        rintro x hs ⟨rfl, rfl⟩
        (repeat first | refine ⟨by omega, ?_⟩ | refine ⟨by decide, ?_⟩ | refine ⟨idx8 _, ?_⟩ | refine ⟨lt8 (Nat.le_refl _) _, ?_⟩ | refine ⟨rfl, ?_⟩)
        have hcat : cat (ps3 OU S []) 2 = OU ++ S := by simp [cat, ps3]
        rw [hcat]
        refine ⟨.a (.agg [.row 32 fun i => .w8 (L (markL key (cat ps k)) i)]), [bts false Nk ok key.length (L key), bts z0 N0 o0 l0.length (L l0), bts z1 N1 o1 l1.length (L l1), bts z2 N2 o2 l2.length (L l2), [.row M (partsF k (nthC [.sn z0 1 0 o0 l0.length c0, .sn z1 2 0 o1 l1.length c1, .sn z2 3 0 o2 l2.length c2]))], shaT 1 0 first steps], ⟨[0, 1, 2, 3, 4, 5], ⟨rfl, rfl, rfl⟩, ?_⟩, rfl, rfl⟩
        rw [hM1]
        (repeat first | exact trivial | refine ⟨rfl, ?_⟩ | refine ⟨fun _ _ => ⟨rfl, trivial⟩, ?_⟩ | refine ⟨fun _ _ => trivial, ?_⟩ | refine ⟨by omega, ?_⟩ | refine ⟨fun _ _ => eqC_winS, ?_⟩ | refine ⟨fun _ _ => eqC_winM, ?_⟩ | refine ⟨fun _ _ => eqC_winB, ?_⟩ | refine ⟨fun _ _ => eqC_selfB, ?_⟩ | refine ⟨fun _ _ => eqC_mpB, ?_⟩)
        refine eqC_bts (eqC_bts (eqC_bts ⟨rfl, fun j hj => eqC_P123 hM, ?_⟩))
        (repeat first | exact trivial | refine ⟨rfl, ?_⟩ | refine ⟨fun _ _ => ⟨rfl, trivial⟩, ?_⟩ | refine ⟨fun _ _ => trivial, ?_⟩ | refine ⟨by omega, ?_⟩ | refine ⟨fun _ _ => eqC_winS, ?_⟩ | refine ⟨fun _ _ => eqC_winM, ?_⟩ | refine ⟨fun _ _ => eqC_winB, ?_⟩ | refine ⟨fun _ _ => eqC_selfB, ?_⟩ | refine ⟨fun _ _ => eqC_mpB, ?_⟩)
end Sx
end Go.Proofs.Ytndlhhhebijknaa
