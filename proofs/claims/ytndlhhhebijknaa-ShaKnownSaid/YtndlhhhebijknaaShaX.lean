/-
  SHA-256: the document's mark. No condition.
-/
import Derived.Test.YtndlhhhebijknaaShaW
namespace Go.Proofs.Ytndlhhhebijknaa
set_option linter.unusedVariables false
namespace Sx
open Sha

theorem eqC_win0 {q : List Nat} {n : Nat} {f : Nat → SC} {b : Nat → BitVec 8} (h : ∀ i, i < n → f i = .w8 (b i)) (j : Nat) : eqC q (f j) (winF 0 n b j) True :=
  eqC_win (fun i hi => by rw [Nat.zero_add]; exact h i hi) j
theorem frc_win {o n i : Nat} {b : Nat → BitVec 8} {k : SC → Prop} (h : i < n) (hk : k (.w8 (b i))) : frcSC (winF o n b (i + o)) k := by
  rw [Nat.add_comm, winF_at _ _ _ h]; exact hk
set_option maxHeartbeats 4000000 in
set_option maxRecDepth 20000 in
theorem fn_rmark (zk zb : Bool) (Nk Nb ok ob ck cb : Nat) (key b : Bs) (hNk : ok + key.length ≤ Nk) (hck : key.length ≤ ck) (hzk : zk = true → key = []) (hNb : ob + b.length ≤ Nb) (hcb : b.length ≤ cb) (hzb : zb = true → b = []) (hkl : key.length < 1099511627776) (hbl : b.length < 549755813888) :
    FnR Try.prog tds 20 2 [bts zk Nk ok key.length (L key), bts zb Nb ob b.length (L b)] [.c (.sn zk 0 0 ok key.length ck), .c (.sn zb 1 0 ob b.length cb)] (fun _ => True)
      (fun x hs => ∃ c, x = .a (.c (.sl 2 0 0 32 c)) ∧ hs = [bts zk Nk ok key.length (L key), bts zb Nb ob b.length (L b), [.row c (bytesF 32 (L (markL key b)))]] ∧ 32 ≤ c) := by
  refine fn_of_body tds_ok follows_ Try.func20 rfl (t := .a (.c (.sn zk 0 0 ok key.length ck)) :: .a (.c (.sn zb 1 0 ob b.length cb)) :: anys 43) rfl (fun w r0 hr _ => ?_)
  obtain ⟨x0, x1, rfl⟩ := len2' hr
  obtain ⟨K, hK⟩ : ∃ K, keyL key = K := ⟨_, rfl⟩
  have hKl : K.length ≤ 64 := by rw [← hK]; exact keyL_le _
  by_cases hlen : 64 < key.length
  · obtain rfl : zk = false := by
      cases zk
      · rfl
      · have := hzk rfl; subst this; simp at hlen
    refine ⟨fun _ => ?_, fun h => absurd (of_decide_eq_false h) (by omega)⟩
    refine ⟨by kernel_rfl, call_same (fn_rsum false Nk ok ck key hNk hck hzk hkl) [0] rfl (by (repeat first | exact trivial | refine ⟨rfl, ?_⟩ | refine ⟨fun _ _ => ⟨rfl, trivial⟩, ?_⟩ | refine ⟨fun _ _ => trivial, ?_⟩ | refine ⟨by omega, ?_⟩ | refine ⟨fun _ _ => eqC_winS, ?_⟩ | refine ⟨fun _ _ => eqC_winM, ?_⟩ | refine ⟨fun _ _ => eqC_winB, ?_⟩ | refine ⟨fun _ _ => eqC_selfB, ?_⟩ | refine ⟨fun _ _ => eqC_mpB, ?_⟩)) (by (repeat first | exact trivial | refine ⟨rfl, ?_⟩ | refine ⟨fun _ _ => ⟨rfl, trivial⟩, ?_⟩ | refine ⟨fun _ _ => trivial, ?_⟩ | refine ⟨by omega, ?_⟩ | refine ⟨fun _ _ => eqC_winS, ?_⟩ | refine ⟨fun _ _ => eqC_winM, ?_⟩ | refine ⟨fun _ _ => eqC_winB, ?_⟩ | refine ⟨fun _ _ => eqC_selfB, ?_⟩ | refine ⟨fun _ _ => eqC_mpB, ?_⟩)) (fun _ _ => trivial) ?_⟩
    rintro x hs ⟨cs, rfl, rfl, hcs⟩
    have hS0 : sumL key = K := by rw [← hK]; unfold keyL; rw [if_pos hlen]
    have hKl2 : K.length = 32 := by rw [← hS0, sumL_len]
    rw [hS0]
    refine ⟨none, [0, 1], [(0, false), (2, true), (1, false), (3, true)], [], by kernel_rfl, ?_⟩
    (repeat first | refine And.intro (by omega) ?_ | refine And.intro (by decide) ?_ | (with_reducible refine frc_parts (by first | omega | decide) ?_) | (with_reducible refine frc_bytesL (by first | omega | decide) ?_) | refine And.intro rfl ?_)
    refine .inl ⟨Nat, fun k => ⟨[.a (.c (.sl 2 0 0 32 cs)), .a (.c (.sn zb 1 0 ob b.length cb)), .any, .any, .any, .a (.c (.sl 3 0 0 64 64)), .a (.c (.sl 4 0 0 64 64)), .a (.c (.int .i64 (↑k))), .any, .any, .any, .any, .any, .any, .any, .any, .any, .any, .any, .any, .any, .any, .any, .any, .any, .any, .any, .any, .any, .any, .any, .any, .any, .any, .any, .any, .any, .any, .any, .any, .any, .any, .any, .any, .any], [bts false Nk ok key.length (L key), bts zb Nb ob b.length (L b), [.row cs (bytesF 32 (L K))], [.row 64 fun i => .w8 (if i < k then L K i ^^^ 0x36#8 else 0#8)], [.row 64 fun i => .w8 (if i < k then L K i ^^^ 0x5c#8 else 0#8)]]⟩,
      fun k => k ≤ 64, fun k => 64 - k, ⟨0, [0, 1, 2, 3, 4], ⟨⟨rfl, rfl, rfl⟩, ?_⟩, by omega⟩, fun k hk => ⟨fun h => ?_, fun h => ?_⟩⟩
    · (repeat first | exact trivial | refine ⟨rfl, ?_⟩ | refine ⟨fun _ _ => ⟨rfl, trivial⟩, ?_⟩ | refine ⟨fun _ _ => trivial, ?_⟩ | refine ⟨by omega, ?_⟩ | refine ⟨fun _ _ => eqC_winS, ?_⟩ | refine ⟨fun _ _ => eqC_winM, ?_⟩ | refine ⟨fun _ _ => eqC_winB, ?_⟩ | refine ⟨fun _ _ => eqC_selfB, ?_⟩ | refine ⟨fun _ _ => eqC_mpB, ?_⟩)
      refine eqC_bts ?_
      (repeat first | exact trivial | refine ⟨rfl, ?_⟩ | refine ⟨fun _ _ => ⟨rfl, trivial⟩, ?_⟩ | refine ⟨fun _ _ => trivial, ?_⟩ | refine ⟨by omega, ?_⟩ | refine ⟨fun _ _ => eqC_winS, ?_⟩ | refine ⟨fun _ _ => eqC_winM, ?_⟩ | refine ⟨fun _ _ => eqC_winB, ?_⟩ | refine ⟨fun _ _ => eqC_selfB, ?_⟩ | refine ⟨fun _ _ => eqC_mpB, ?_⟩)
    · have hlt : (k : Int) < 64 := of_decide_eq_true h
      have hx : ∀ (x : BitVec 8) (j : Nat), eqC [0, 1, 2, 3, 4] (upd (fun i => SC.w8 (if i < k then L K i ^^^ x else 0#8)) k (.w8 (L K k ^^^ x)) j) (.w8 (if j < k + 1 then L K j ^^^ x else 0#8)) True := fun x j => by
        unfold upd
        by_cases hj : j = k
        · rw [if_pos hj, hj, if_pos (by omega)]; exact ⟨rfl, trivial⟩
        · have : j < k + 1 ↔ j < k := by omega
          rw [if_neg hj]; simp only [this]; exact ⟨rfl, trivial⟩
      refine ⟨fun h2 => ?_, fun h2 => ?_⟩
      · have hkl : (k : Int) < ((32 : Nat) : Int) := of_decide_eq_true h2
        (repeat first | refine And.intro (by omega) ?_ | refine And.intro (by decide) ?_ | (with_reducible refine frc_parts (by first | omega | decide) ?_) | (with_reducible refine frc_bytesL (by first | omega | decide) ?_) | refine And.intro rfl ?_)
        refine ⟨k + 1, [0, 1, 2, 3, 4], ⟨⟨rfl, rfl, rfl⟩, ?_⟩, by first | omega | (dsimp only; omega), by first | omega | (dsimp only; omega)⟩
        (repeat first | exact trivial | refine ⟨rfl, ?_⟩ | refine ⟨fun _ _ => ⟨rfl, trivial⟩, ?_⟩ | refine ⟨fun _ _ => trivial, ?_⟩ | refine ⟨by omega, ?_⟩ | refine ⟨fun _ _ => eqC_winS, ?_⟩ | refine ⟨fun _ _ => eqC_winM, ?_⟩ | refine ⟨fun _ _ => eqC_winB, ?_⟩ | refine ⟨fun _ _ => eqC_selfB, ?_⟩ | refine ⟨fun _ _ => eqC_mpB, ?_⟩)
        refine eqC_bts ?_
        (repeat first | exact trivial | refine ⟨rfl, ?_⟩ | refine ⟨fun _ _ => ⟨rfl, trivial⟩, ?_⟩ | refine ⟨fun _ _ => trivial, ?_⟩ | refine ⟨by omega, ?_⟩ | refine ⟨fun _ _ => eqC_winS, ?_⟩ | refine ⟨fun _ _ => eqC_winM, ?_⟩ | refine ⟨fun _ _ => eqC_winB, ?_⟩ | refine ⟨fun _ _ => eqC_selfB, ?_⟩ | refine ⟨fun _ _ => eqC_mpB, ?_⟩)
        have e0 : (k : Int).toNat + 0 = k := by omega
        rw [e0]
        exact ⟨fun j hj => hx _ j, rfl, fun j hj => hx _ j, by (repeat first | exact trivial | refine ⟨rfl, ?_⟩ | refine ⟨fun _ _ => ⟨rfl, trivial⟩, ?_⟩ | refine ⟨fun _ _ => trivial, ?_⟩ | refine ⟨by omega, ?_⟩ | refine ⟨fun _ _ => eqC_winS, ?_⟩ | refine ⟨fun _ _ => eqC_winM, ?_⟩ | refine ⟨fun _ _ => eqC_winB, ?_⟩ | refine ⟨fun _ _ => eqC_selfB, ?_⟩ | refine ⟨fun _ _ => eqC_mpB, ?_⟩)⟩
      · have hkl : ¬ (k : Int) < ((32 : Nat) : Int) := of_decide_eq_false h2
        have hz0 : L K k = 0#8 := L_over (by first | omega | simp)
        rw [hz0] at hx
        (repeat first | refine And.intro (by omega) ?_ | refine And.intro (by decide) ?_ | (with_reducible refine frc_parts (by first | omega | decide) ?_) | (with_reducible refine frc_bytesL (by first | omega | decide) ?_) | refine And.intro rfl ?_)
        refine ⟨k + 1, [0, 1, 2, 3, 4], ⟨⟨rfl, rfl, rfl⟩, ?_⟩, by first | omega | (dsimp only; omega), by first | omega | (dsimp only; omega)⟩
        (repeat first | exact trivial | refine ⟨rfl, ?_⟩ | refine ⟨fun _ _ => ⟨rfl, trivial⟩, ?_⟩ | refine ⟨fun _ _ => trivial, ?_⟩ | refine ⟨by omega, ?_⟩ | refine ⟨fun _ _ => eqC_winS, ?_⟩ | refine ⟨fun _ _ => eqC_winM, ?_⟩ | refine ⟨fun _ _ => eqC_winB, ?_⟩ | refine ⟨fun _ _ => eqC_selfB, ?_⟩ | refine ⟨fun _ _ => eqC_mpB, ?_⟩)
        refine eqC_bts ?_
        (repeat first | exact trivial | refine ⟨rfl, ?_⟩ | refine ⟨fun _ _ => ⟨rfl, trivial⟩, ?_⟩ | refine ⟨fun _ _ => trivial, ?_⟩ | refine ⟨by omega, ?_⟩ | refine ⟨fun _ _ => eqC_winS, ?_⟩ | refine ⟨fun _ _ => eqC_winM, ?_⟩ | refine ⟨fun _ _ => eqC_winB, ?_⟩ | refine ⟨fun _ _ => eqC_selfB, ?_⟩ | refine ⟨fun _ _ => eqC_mpB, ?_⟩)
        have e0 : (k : Int).toNat + 0 = k := by omega
        rw [e0]
        exact ⟨fun j hj => hx _ j, rfl, fun j hj => hx _ j, by (repeat first | exact trivial | refine ⟨rfl, ?_⟩ | refine ⟨fun _ _ => ⟨rfl, trivial⟩, ?_⟩ | refine ⟨fun _ _ => trivial, ?_⟩ | refine ⟨by omega, ?_⟩ | refine ⟨fun _ _ => eqC_winS, ?_⟩ | refine ⟨fun _ _ => eqC_winM, ?_⟩ | refine ⟨fun _ _ => eqC_winB, ?_⟩ | refine ⟨fun _ _ => eqC_selfB, ?_⟩ | refine ⟨fun _ _ => eqC_mpB, ?_⟩)⟩
    · obtain rfl : k = 64 := by have : ¬ (k : Int) < 64 := of_decide_eq_false h; have hk : k ≤ 64 := hk; omega
      obtain ⟨IN, hIN⟩ : ∃ IN, padL 0x36#8 K = IN := ⟨_, rfl⟩
      obtain ⟨OU, hOU⟩ : ∃ OU, padL 0x5c#8 K = OU := ⟨_, rfl⟩
      have hINl : IN.length = 64 := by rw [← hIN, padL_len]
      have hOUl : OU.length = 64 := by rw [← hOU, padL_len]
      have hINi : ∀ i, i < 64 → (if i < 64 then L K i ^^^ 0x36#8 else 0#8) = L IN i := fun i hi => by rw [if_pos hi, ← hIN]; exact (L_tab (b := fun i => L K i ^^^ 0x36#8) hi).symm
      have hOUi : ∀ i, i < 64 → (if i < 64 then L K i ^^^ 0x5c#8 else 0#8) = L OU i := fun i hi => by rw [if_pos hi, ← hOU]; exact (L_tab (b := fun i => L K i ^^^ 0x5c#8) hi).symm
      have hml : markL key b = sumL (OU ++ sumL (IN ++ b)) := by unfold markL; rw [hK, hIN, hOU]
      (repeat first | refine And.intro (by omega) ?_ | refine And.intro (by decide) ?_ | (with_reducible refine frc_parts (by first | omega | decide) ?_) | (with_reducible refine frc_bytesL (by first | omega | decide) ?_) | refine And.intro rfl ?_)
      refine sn_bts (N := Nb) (b := L b) ?_ hNb (fun h => by rw [hzb h]; rfl) (fun g hg => ?_)
      · rfl
      refine ⟨⟨by omega, by simp only [scale]; omega, by show _ * 1 ≤ _; omega⟩, fun c1 hc1 => ?_⟩
      have hr1 : ∀ i, i < (IN ++ b).length → appF (fun i => SC.w8 (if i < 64 then L K i ^^^ 0x36#8 else 0#8)) 0 (scale 64 (0 + 1)) (scale b.length (0 + 1)) g i = .w8 (L (IN ++ b) i) := fun i hi => by
        rw [List.length_append, hINl] at hi
        unfold appF
        by_cases h64 : i < 64
        · rw [if_pos (by simpa [scale] using h64)]
          exact congrArg SC.w8 ((hINi i h64).trans (L_app1 (by omega)).symm)
        · rw [if_neg (by simpa [scale] using h64), if_pos (by simp only [scale]; omega), show scale 64 (0 + 1) = 64 from rfl, hg _ (by omega), L_app, if_neg (by omega), hINl]
      refine ⟨by kernel_rfl, call_same (fn_rsum false c1 0 c1 (IN ++ b) (by rw [List.length_append]; omega) (by rw [List.length_append]; omega) (fun h => Bool.noConfusion h) (by rw [List.length_append]; omega)) [5] rfl ⟨rfl, rfl, ?_, rfl, trivial⟩ ?_ (fun _ _ => trivial) ?_⟩
      · rw [List.length_append, hINl]
      · exact ⟨rfl, fun j hj => eqC_win0 hr1 j, trivial⟩
      rintro x hs ⟨c2, rfl, rfl, hc2⟩
      obtain ⟨S, hS⟩ : ∃ S, sumL (IN ++ b) = S := ⟨_, rfl⟩
      have hSl : S.length = 32 := by rw [← hS, sumL_len]
      rw [hS] at hml
      rw [hS]
      refine ⟨by simp only [scale]; omega, ⟨by omega, by simp only [scale]; omega, by show _ * 1 ≤ _; omega⟩, fun c3 hc3 => ?_⟩
      have hr2 : ∀ i, i < (OU ++ S).length → appF (fun i => SC.w8 (if i < 64 then L K i ^^^ 0x5c#8 else 0#8)) 0 (scale 64 (0 + 1)) (scale 32 (0 + 1)) (fun q => SC.mp (bk 6 [5]) (bytesF 32 (L S) (q + 0))) i = .w8 (L (OU ++ S) i) := fun i hi => by
        rw [List.length_append, hOUl, hSl] at hi
        unfold appF
        by_cases h64 : i < 64
        · rw [if_pos (by simpa [scale] using h64)]
          exact congrArg SC.w8 ((hOUi i h64).trans (L_app1 (by omega)).symm)
        · rw [if_neg (by simpa [scale] using h64), if_pos (by simp only [scale]; omega), show scale 64 (0 + 1) = 64 from rfl, L_app, if_neg (by omega), hOUl]
          show SC.mp _ (bytesF 32 (L S) (i - 64)) = _
          rw [bytesF_lt (by omega)]
          rfl
      refine ⟨by kernel_rfl, call_same (fn_rsum false c3 0 c3 (OU ++ S) (by rw [List.length_append]; omega) (by rw [List.length_append]; omega) (fun h => Bool.noConfusion h) (by rw [List.length_append]; omega)) [7] rfl ⟨rfl, rfl, ?_, rfl, trivial⟩ ?_ (fun _ _ => trivial) ?_⟩
      · rw [List.length_append, hOUl, hSl]
      · exact ⟨rfl, fun j hj => eqC_win0 hr2 j, trivial⟩
      rintro x hs ⟨c4, rfl, rfl, hc4⟩
      refine ⟨.a (.c (.sl 2 0 0 32 c4)), [bts false Nk ok key.length (L key), bts zb Nb ob b.length (L b), [.row c4 (bytesF 32 (L (markL key b)))]], ⟨[0, 1, 8], ⟨rfl, rfl, rfl⟩, ?_⟩, c4, rfl, rfl, hc4⟩
      rw [hml]
      (repeat first | exact trivial | refine ⟨rfl, ?_⟩ | refine ⟨fun _ _ => ⟨rfl, trivial⟩, ?_⟩ | refine ⟨fun _ _ => trivial, ?_⟩ | refine ⟨by omega, ?_⟩ | refine ⟨fun _ _ => eqC_winS, ?_⟩ | refine ⟨fun _ _ => eqC_winM, ?_⟩ | refine ⟨fun _ _ => eqC_winB, ?_⟩ | refine ⟨fun _ _ => eqC_selfB, ?_⟩ | refine ⟨fun _ _ => eqC_mpB, ?_⟩)
      refine eqC_bts ?_
      (repeat first | exact trivial | refine ⟨rfl, ?_⟩ | refine ⟨fun _ _ => ⟨rfl, trivial⟩, ?_⟩ | refine ⟨fun _ _ => trivial, ?_⟩ | refine ⟨by omega, ?_⟩ | refine ⟨fun _ _ => eqC_winS, ?_⟩ | refine ⟨fun _ _ => eqC_winM, ?_⟩ | refine ⟨fun _ _ => eqC_winB, ?_⟩ | refine ⟨fun _ _ => eqC_selfB, ?_⟩ | refine ⟨fun _ _ => eqC_mpB, ?_⟩)
  refine ⟨fun h => absurd (of_decide_eq_true h) (by omega), fun _ => ?_⟩
  obtain rfl : key = K := by rw [← hK]; unfold keyL; rw [if_neg hlen]
  cases zk with
  | true =>
    obtain rfl := hzk rfl
    refine ⟨none, [0, 1], [(0, false), (2, true), (1, false), (3, true)], [], by kernel_rfl, ?_⟩
    (repeat first | refine And.intro (by omega) ?_ | refine And.intro (by decide) ?_ | (with_reducible refine frc_parts (by first | omega | decide) ?_) | (with_reducible refine frc_bytesL (by first | omega | decide) ?_) | refine And.intro rfl ?_)
    refine .inl ⟨Nat, fun k => ⟨[.a (.c (.sn true 0 0 ok 0 ck)), .a (.c (.sn zb 1 0 ob b.length cb)), .any, .any, .any, .a (.c (.sl 2 0 0 64 64)), .a (.c (.sl 3 0 0 64 64)), .a (.c (.int .i64 (↑k))), .any, .any, .any, .any, .any, .any, .any, .any, .any, .any, .any, .any, .any, .any, .any, .any, .any, .any, .any, .any, .any, .any, .any, .any, .any, .any, .any, .any, .any, .any, .any, .any, .any, .any, .any, .any, .any], [bts true Nk ok ([] : Bs).length (L ([] : Bs)), bts zb Nb ob b.length (L b), [.row 64 fun i => .w8 (if i < k then L ([] : Bs) i ^^^ 0x36#8 else 0#8)], [.row 64 fun i => .w8 (if i < k then L ([] : Bs) i ^^^ 0x5c#8 else 0#8)]]⟩,
      fun k => k ≤ 64, fun k => 64 - k, ⟨0, [0, 1, 2, 3], ⟨⟨rfl, rfl, rfl⟩, ?_⟩, by omega⟩, fun k hk => ⟨fun h => ?_, fun h => ?_⟩⟩
    · (repeat first | exact trivial | refine ⟨rfl, ?_⟩ | refine ⟨fun _ _ => ⟨rfl, trivial⟩, ?_⟩ | refine ⟨fun _ _ => trivial, ?_⟩ | refine ⟨by omega, ?_⟩ | refine ⟨fun _ _ => eqC_winS, ?_⟩ | refine ⟨fun _ _ => eqC_winM, ?_⟩ | refine ⟨fun _ _ => eqC_winB, ?_⟩ | refine ⟨fun _ _ => eqC_selfB, ?_⟩ | refine ⟨fun _ _ => eqC_mpB, ?_⟩)
      refine eqC_bts (eqC_bts ?_)
      (repeat first | exact trivial | refine ⟨rfl, ?_⟩ | refine ⟨fun _ _ => ⟨rfl, trivial⟩, ?_⟩ | refine ⟨fun _ _ => trivial, ?_⟩ | refine ⟨by omega, ?_⟩ | refine ⟨fun _ _ => eqC_winS, ?_⟩ | refine ⟨fun _ _ => eqC_winM, ?_⟩ | refine ⟨fun _ _ => eqC_winB, ?_⟩ | refine ⟨fun _ _ => eqC_selfB, ?_⟩ | refine ⟨fun _ _ => eqC_mpB, ?_⟩)
    · have hlt : (k : Int) < 64 := of_decide_eq_true h
      have hx : ∀ (x : BitVec 8) (j : Nat), eqC [0, 1, 2, 3] (upd (fun i => SC.w8 (if i < k then L ([] : Bs) i ^^^ x else 0#8)) k (.w8 (L ([] : Bs) k ^^^ x)) j) (.w8 (if j < k + 1 then L ([] : Bs) j ^^^ x else 0#8)) True := fun x j => by
        unfold upd
        by_cases hj : j = k
        · rw [if_pos hj, hj, if_pos (by omega)]; exact ⟨rfl, trivial⟩
        · have : j < k + 1 ↔ j < k := by omega
          rw [if_neg hj]; simp only [this]; exact ⟨rfl, trivial⟩
      refine ⟨fun h2 => ?_, fun h2 => ?_⟩
      · have hkl : (k : Int) < ((0 : Nat) : Int) := of_decide_eq_true h2
        exact absurd hkl (by omega)
      · have hkl : ¬ (k : Int) < ((0 : Nat) : Int) := of_decide_eq_false h2
        have hz0 : L ([] : Bs) k = 0#8 := L_over (by first | omega | simp)
        rw [hz0] at hx
        (repeat first | refine And.intro (by omega) ?_ | refine And.intro (by decide) ?_ | (with_reducible refine frc_parts (by first | omega | decide) ?_) | (with_reducible refine frc_bytesL (by first | omega | decide) ?_) | refine And.intro rfl ?_)
        refine ⟨k + 1, [0, 1, 2, 3], ⟨⟨rfl, rfl, rfl⟩, ?_⟩, by first | omega | (dsimp only; omega), by first | omega | (dsimp only; omega)⟩
        (repeat first | exact trivial | refine ⟨rfl, ?_⟩ | refine ⟨fun _ _ => ⟨rfl, trivial⟩, ?_⟩ | refine ⟨fun _ _ => trivial, ?_⟩ | refine ⟨by omega, ?_⟩ | refine ⟨fun _ _ => eqC_winS, ?_⟩ | refine ⟨fun _ _ => eqC_winM, ?_⟩ | refine ⟨fun _ _ => eqC_winB, ?_⟩ | refine ⟨fun _ _ => eqC_selfB, ?_⟩ | refine ⟨fun _ _ => eqC_mpB, ?_⟩)
        refine eqC_bts (eqC_bts ?_)
        (repeat first | exact trivial | refine ⟨rfl, ?_⟩ | refine ⟨fun _ _ => ⟨rfl, trivial⟩, ?_⟩ | refine ⟨fun _ _ => trivial, ?_⟩ | refine ⟨by omega, ?_⟩ | refine ⟨fun _ _ => eqC_winS, ?_⟩ | refine ⟨fun _ _ => eqC_winM, ?_⟩ | refine ⟨fun _ _ => eqC_winB, ?_⟩ | refine ⟨fun _ _ => eqC_selfB, ?_⟩ | refine ⟨fun _ _ => eqC_mpB, ?_⟩)
        have e0 : (k : Int).toNat + 0 = k := by omega
        rw [e0]
        exact ⟨fun j hj => hx _ j, rfl, fun j hj => hx _ j, by (repeat first | exact trivial | refine ⟨rfl, ?_⟩ | refine ⟨fun _ _ => ⟨rfl, trivial⟩, ?_⟩ | refine ⟨fun _ _ => trivial, ?_⟩ | refine ⟨by omega, ?_⟩ | refine ⟨fun _ _ => eqC_winS, ?_⟩ | refine ⟨fun _ _ => eqC_winM, ?_⟩ | refine ⟨fun _ _ => eqC_winB, ?_⟩ | refine ⟨fun _ _ => eqC_selfB, ?_⟩ | refine ⟨fun _ _ => eqC_mpB, ?_⟩)⟩
    · obtain rfl : k = 64 := by have : ¬ (k : Int) < 64 := of_decide_eq_false h; have hk : k ≤ 64 := hk; omega
      obtain ⟨IN, hIN⟩ : ∃ IN, padL 0x36#8 ([] : Bs) = IN := ⟨_, rfl⟩
      obtain ⟨OU, hOU⟩ : ∃ OU, padL 0x5c#8 ([] : Bs) = OU := ⟨_, rfl⟩
      have hINl : IN.length = 64 := by rw [← hIN, padL_len]
      have hOUl : OU.length = 64 := by rw [← hOU, padL_len]
      have hINi : ∀ i, i < 64 → (if i < 64 then L ([] : Bs) i ^^^ 0x36#8 else 0#8) = L IN i := fun i hi => by rw [if_pos hi, ← hIN]; exact (L_tab (b := fun i => L ([] : Bs) i ^^^ 0x36#8) hi).symm
      have hOUi : ∀ i, i < 64 → (if i < 64 then L ([] : Bs) i ^^^ 0x5c#8 else 0#8) = L OU i := fun i hi => by rw [if_pos hi, ← hOU]; exact (L_tab (b := fun i => L ([] : Bs) i ^^^ 0x5c#8) hi).symm
      have hml : markL ([] : Bs) b = sumL (OU ++ sumL (IN ++ b)) := by unfold markL; rw [hK, hIN, hOU]
      (repeat first | refine And.intro (by omega) ?_ | refine And.intro (by decide) ?_ | (with_reducible refine frc_parts (by first | omega | decide) ?_) | (with_reducible refine frc_bytesL (by first | omega | decide) ?_) | refine And.intro rfl ?_)
      refine sn_bts (N := Nb) (b := L b) ?_ hNb (fun h => by rw [hzb h]; rfl) (fun g hg => ?_)
      · rfl
      refine ⟨⟨by omega, by simp only [scale]; omega, by show _ * 1 ≤ _; omega⟩, fun c1 hc1 => ?_⟩
      have hr1 : ∀ i, i < (IN ++ b).length → appF (fun i => SC.w8 (if i < 64 then L ([] : Bs) i ^^^ 0x36#8 else 0#8)) 0 (scale 64 (0 + 1)) (scale b.length (0 + 1)) g i = .w8 (L (IN ++ b) i) := fun i hi => by
        rw [List.length_append, hINl] at hi
        unfold appF
        by_cases h64 : i < 64
        · rw [if_pos (by simpa [scale] using h64)]
          exact congrArg SC.w8 ((hINi i h64).trans (L_app1 (by omega)).symm)
        · rw [if_neg (by simpa [scale] using h64), if_pos (by simp only [scale]; omega), show scale 64 (0 + 1) = 64 from rfl, hg _ (by omega), L_app, if_neg (by omega), hINl]
      refine ⟨by kernel_rfl, call_same (fn_rsum false c1 0 c1 (IN ++ b) (by rw [List.length_append]; omega) (by rw [List.length_append]; omega) (fun h => Bool.noConfusion h) (by rw [List.length_append]; omega)) [4] rfl ⟨rfl, rfl, ?_, rfl, trivial⟩ ?_ (fun _ _ => trivial) ?_⟩
      · rw [List.length_append, hINl]
      · exact ⟨rfl, fun j hj => eqC_win0 hr1 j, trivial⟩
      rintro x hs ⟨c2, rfl, rfl, hc2⟩
      obtain ⟨S, hS⟩ : ∃ S, sumL (IN ++ b) = S := ⟨_, rfl⟩
      have hSl : S.length = 32 := by rw [← hS, sumL_len]
      rw [hS] at hml
      rw [hS]
      refine ⟨by simp only [scale]; omega, ⟨by omega, by simp only [scale]; omega, by show _ * 1 ≤ _; omega⟩, fun c3 hc3 => ?_⟩
      have hr2 : ∀ i, i < (OU ++ S).length → appF (fun i => SC.w8 (if i < 64 then L ([] : Bs) i ^^^ 0x5c#8 else 0#8)) 0 (scale 64 (0 + 1)) (scale 32 (0 + 1)) (fun q => SC.mp (bk 5 [4]) (bytesF 32 (L S) (q + 0))) i = .w8 (L (OU ++ S) i) := fun i hi => by
        rw [List.length_append, hOUl, hSl] at hi
        unfold appF
        by_cases h64 : i < 64
        · rw [if_pos (by simpa [scale] using h64)]
          exact congrArg SC.w8 ((hOUi i h64).trans (L_app1 (by omega)).symm)
        · rw [if_neg (by simpa [scale] using h64), if_pos (by simp only [scale]; omega), show scale 64 (0 + 1) = 64 from rfl, L_app, if_neg (by omega), hOUl]
          show SC.mp _ (bytesF 32 (L S) (i - 64)) = _
          rw [bytesF_lt (by omega)]
          rfl
      refine ⟨by kernel_rfl, call_same (fn_rsum false c3 0 c3 (OU ++ S) (by rw [List.length_append]; omega) (by rw [List.length_append]; omega) (fun h => Bool.noConfusion h) (by rw [List.length_append]; omega)) [6] rfl ⟨rfl, rfl, ?_, rfl, trivial⟩ ?_ (fun _ _ => trivial) ?_⟩
      · rw [List.length_append, hOUl, hSl]
      · exact ⟨rfl, fun j hj => eqC_win0 hr2 j, trivial⟩
      rintro x hs ⟨c4, rfl, rfl, hc4⟩
      refine ⟨.a (.c (.sl 2 0 0 32 c4)), [bts true Nk ok ([] : Bs).length (L ([] : Bs)), bts zb Nb ob b.length (L b), [.row c4 (bytesF 32 (L (markL ([] : Bs) b)))]], ⟨[0, 1, 7], ⟨rfl, rfl, rfl⟩, ?_⟩, c4, rfl, rfl, hc4⟩
      rw [hml]
      (repeat first | exact trivial | refine ⟨rfl, ?_⟩ | refine ⟨fun _ _ => ⟨rfl, trivial⟩, ?_⟩ | refine ⟨fun _ _ => trivial, ?_⟩ | refine ⟨by omega, ?_⟩ | refine ⟨fun _ _ => eqC_winS, ?_⟩ | refine ⟨fun _ _ => eqC_winM, ?_⟩ | refine ⟨fun _ _ => eqC_winB, ?_⟩ | refine ⟨fun _ _ => eqC_selfB, ?_⟩ | refine ⟨fun _ _ => eqC_mpB, ?_⟩)
      refine eqC_bts (eqC_bts ?_)
      (repeat first | exact trivial | refine ⟨rfl, ?_⟩ | refine ⟨fun _ _ => ⟨rfl, trivial⟩, ?_⟩ | refine ⟨fun _ _ => trivial, ?_⟩ | refine ⟨by omega, ?_⟩ | refine ⟨fun _ _ => eqC_winS, ?_⟩ | refine ⟨fun _ _ => eqC_winM, ?_⟩ | refine ⟨fun _ _ => eqC_winB, ?_⟩ | refine ⟨fun _ _ => eqC_selfB, ?_⟩ | refine ⟨fun _ _ => eqC_mpB, ?_⟩)
  | false =>
    refine ⟨none, [0, 1], [(0, false), (2, true), (1, false), (3, true)], [], by kernel_rfl, ?_⟩
    (repeat first | refine And.intro (by omega) ?_ | refine And.intro (by decide) ?_ | (with_reducible refine frc_parts (by first | omega | decide) ?_) | (with_reducible refine frc_bytesL (by first | omega | decide) ?_) | refine And.intro rfl ?_)
    refine .inl ⟨Nat, fun k => ⟨[.a (.c (.sn false 0 0 ok key.length ck)), .a (.c (.sn zb 1 0 ob b.length cb)), .any, .any, .any, .a (.c (.sl 2 0 0 64 64)), .a (.c (.sl 3 0 0 64 64)), .a (.c (.int .i64 (↑k))), .any, .any, .any, .any, .any, .any, .any, .any, .any, .any, .any, .any, .any, .any, .any, .any, .any, .any, .any, .any, .any, .any, .any, .any, .any, .any, .any, .any, .any, .any, .any, .any, .any, .any, .any, .any, .any], [bts false Nk ok key.length (L key), bts zb Nb ob b.length (L b), [.row 64 fun i => .w8 (if i < k then L key i ^^^ 0x36#8 else 0#8)], [.row 64 fun i => .w8 (if i < k then L key i ^^^ 0x5c#8 else 0#8)]]⟩,
      fun k => k ≤ 64, fun k => 64 - k, ⟨0, [0, 1, 2, 3], ⟨⟨rfl, rfl, rfl⟩, ?_⟩, by omega⟩, fun k hk => ⟨fun h => ?_, fun h => ?_⟩⟩
    · (repeat first | exact trivial | refine ⟨rfl, ?_⟩ | refine ⟨fun _ _ => ⟨rfl, trivial⟩, ?_⟩ | refine ⟨fun _ _ => trivial, ?_⟩ | refine ⟨by omega, ?_⟩ | refine ⟨fun _ _ => eqC_winS, ?_⟩ | refine ⟨fun _ _ => eqC_winM, ?_⟩ | refine ⟨fun _ _ => eqC_winB, ?_⟩ | refine ⟨fun _ _ => eqC_selfB, ?_⟩ | refine ⟨fun _ _ => eqC_mpB, ?_⟩)
      refine eqC_bts ?_
      (repeat first | exact trivial | refine ⟨rfl, ?_⟩ | refine ⟨fun _ _ => ⟨rfl, trivial⟩, ?_⟩ | refine ⟨fun _ _ => trivial, ?_⟩ | refine ⟨by omega, ?_⟩ | refine ⟨fun _ _ => eqC_winS, ?_⟩ | refine ⟨fun _ _ => eqC_winM, ?_⟩ | refine ⟨fun _ _ => eqC_winB, ?_⟩ | refine ⟨fun _ _ => eqC_selfB, ?_⟩ | refine ⟨fun _ _ => eqC_mpB, ?_⟩)
    · have hlt : (k : Int) < 64 := of_decide_eq_true h
      have hx : ∀ (x : BitVec 8) (j : Nat), eqC [0, 1, 2, 3] (upd (fun i => SC.w8 (if i < k then L key i ^^^ x else 0#8)) k (.w8 (L key k ^^^ x)) j) (.w8 (if j < k + 1 then L key j ^^^ x else 0#8)) True := fun x j => by
        unfold upd
        by_cases hj : j = k
        · rw [if_pos hj, hj, if_pos (by omega)]; exact ⟨rfl, trivial⟩
        · have : j < k + 1 ↔ j < k := by omega
          rw [if_neg hj]; simp only [this]; exact ⟨rfl, trivial⟩
      refine ⟨fun h2 => ?_, fun h2 => ?_⟩
      · have hkl : (k : Int) < ((key.length : Nat) : Int) := of_decide_eq_true h2
        (repeat first | refine And.intro (by omega) ?_ | refine And.intro (by decide) ?_ | (with_reducible refine frc_parts (by first | omega | decide) ?_) | (with_reducible refine frc_bytesL (by first | omega | decide) ?_) | refine And.intro rfl ?_)
        have ew : ok + k = ok + k := rfl
        refine frc_win (show k < key.length by omega) ?_
        (repeat first | refine And.intro (by omega) ?_ | refine And.intro (by decide) ?_ | (with_reducible refine frc_parts (by first | omega | decide) ?_) | (with_reducible refine frc_bytesL (by first | omega | decide) ?_) | refine And.intro rfl ?_)
        refine ⟨k + 1, [0, 1, 2, 3], ⟨⟨rfl, rfl, rfl⟩, ?_⟩, by first | omega | (dsimp only; omega), by first | omega | (dsimp only; omega)⟩
        (repeat first | exact trivial | refine ⟨rfl, ?_⟩ | refine ⟨fun _ _ => ⟨rfl, trivial⟩, ?_⟩ | refine ⟨fun _ _ => trivial, ?_⟩ | refine ⟨by omega, ?_⟩ | refine ⟨fun _ _ => eqC_winS, ?_⟩ | refine ⟨fun _ _ => eqC_winM, ?_⟩ | refine ⟨fun _ _ => eqC_winB, ?_⟩ | refine ⟨fun _ _ => eqC_selfB, ?_⟩ | refine ⟨fun _ _ => eqC_mpB, ?_⟩)
        refine eqC_bts ?_
        (repeat first | exact trivial | refine ⟨rfl, ?_⟩ | refine ⟨fun _ _ => ⟨rfl, trivial⟩, ?_⟩ | refine ⟨fun _ _ => trivial, ?_⟩ | refine ⟨by omega, ?_⟩ | refine ⟨fun _ _ => eqC_winS, ?_⟩ | refine ⟨fun _ _ => eqC_winM, ?_⟩ | refine ⟨fun _ _ => eqC_winB, ?_⟩ | refine ⟨fun _ _ => eqC_selfB, ?_⟩ | refine ⟨fun _ _ => eqC_mpB, ?_⟩)
        have e0 : (k : Int).toNat + 0 = k := by omega
        rw [e0]
        exact ⟨fun j hj => hx _ j, rfl, fun j hj => hx _ j, by (repeat first | exact trivial | refine ⟨rfl, ?_⟩ | refine ⟨fun _ _ => ⟨rfl, trivial⟩, ?_⟩ | refine ⟨fun _ _ => trivial, ?_⟩ | refine ⟨by omega, ?_⟩ | refine ⟨fun _ _ => eqC_winS, ?_⟩ | refine ⟨fun _ _ => eqC_winM, ?_⟩ | refine ⟨fun _ _ => eqC_winB, ?_⟩ | refine ⟨fun _ _ => eqC_selfB, ?_⟩ | refine ⟨fun _ _ => eqC_mpB, ?_⟩)⟩
      · have hkl : ¬ (k : Int) < ((key.length : Nat) : Int) := of_decide_eq_false h2
        have hz0 : L key k = 0#8 := L_over (by first | omega | simp)
        rw [hz0] at hx
        (repeat first | refine And.intro (by omega) ?_ | refine And.intro (by decide) ?_ | (with_reducible refine frc_parts (by first | omega | decide) ?_) | (with_reducible refine frc_bytesL (by first | omega | decide) ?_) | refine And.intro rfl ?_)
        refine ⟨k + 1, [0, 1, 2, 3], ⟨⟨rfl, rfl, rfl⟩, ?_⟩, by first | omega | (dsimp only; omega), by first | omega | (dsimp only; omega)⟩
        (repeat first | exact trivial | refine ⟨rfl, ?_⟩ | refine ⟨fun _ _ => ⟨rfl, trivial⟩, ?_⟩ | refine ⟨fun _ _ => trivial, ?_⟩ | refine ⟨by omega, ?_⟩ | refine ⟨fun _ _ => eqC_winS, ?_⟩ | refine ⟨fun _ _ => eqC_winM, ?_⟩ | refine ⟨fun _ _ => eqC_winB, ?_⟩ | refine ⟨fun _ _ => eqC_selfB, ?_⟩ | refine ⟨fun _ _ => eqC_mpB, ?_⟩)
        refine eqC_bts ?_
        (repeat first | exact trivial | refine ⟨rfl, ?_⟩ | refine ⟨fun _ _ => ⟨rfl, trivial⟩, ?_⟩ | refine ⟨fun _ _ => trivial, ?_⟩ | refine ⟨by omega, ?_⟩ | refine ⟨fun _ _ => eqC_winS, ?_⟩ | refine ⟨fun _ _ => eqC_winM, ?_⟩ | refine ⟨fun _ _ => eqC_winB, ?_⟩ | refine ⟨fun _ _ => eqC_selfB, ?_⟩ | refine ⟨fun _ _ => eqC_mpB, ?_⟩)
        have e0 : (k : Int).toNat + 0 = k := by omega
        rw [e0]
        exact ⟨fun j hj => hx _ j, rfl, fun j hj => hx _ j, by (repeat first | exact trivial | refine ⟨rfl, ?_⟩ | refine ⟨fun _ _ => ⟨rfl, trivial⟩, ?_⟩ | refine ⟨fun _ _ => trivial, ?_⟩ | refine ⟨by omega, ?_⟩ | refine ⟨fun _ _ => eqC_winS, ?_⟩ | refine ⟨fun _ _ => eqC_winM, ?_⟩ | refine ⟨fun _ _ => eqC_winB, ?_⟩ | refine ⟨fun _ _ => eqC_selfB, ?_⟩ | refine ⟨fun _ _ => eqC_mpB, ?_⟩)⟩
    · obtain rfl : k = 64 := by have : ¬ (k : Int) < 64 := of_decide_eq_false h; have hk : k ≤ 64 := hk; omega
      obtain ⟨IN, hIN⟩ : ∃ IN, padL 0x36#8 key = IN := ⟨_, rfl⟩
      obtain ⟨OU, hOU⟩ : ∃ OU, padL 0x5c#8 key = OU := ⟨_, rfl⟩
      have hINl : IN.length = 64 := by rw [← hIN, padL_len]
      have hOUl : OU.length = 64 := by rw [← hOU, padL_len]
      have hINi : ∀ i, i < 64 → (if i < 64 then L key i ^^^ 0x36#8 else 0#8) = L IN i := fun i hi => by rw [if_pos hi, ← hIN]; exact (L_tab (b := fun i => L key i ^^^ 0x36#8) hi).symm
      have hOUi : ∀ i, i < 64 → (if i < 64 then L key i ^^^ 0x5c#8 else 0#8) = L OU i := fun i hi => by rw [if_pos hi, ← hOU]; exact (L_tab (b := fun i => L key i ^^^ 0x5c#8) hi).symm
      have hml : markL key b = sumL (OU ++ sumL (IN ++ b)) := by unfold markL; rw [hK, hIN, hOU]
      (repeat first | refine And.intro (by omega) ?_ | refine And.intro (by decide) ?_ | (with_reducible refine frc_parts (by first | omega | decide) ?_) | (with_reducible refine frc_bytesL (by first | omega | decide) ?_) | refine And.intro rfl ?_)
      refine sn_bts (N := Nb) (b := L b) ?_ hNb (fun h => by rw [hzb h]; rfl) (fun g hg => ?_)
      · rfl
      refine ⟨⟨by omega, by simp only [scale]; omega, by show _ * 1 ≤ _; omega⟩, fun c1 hc1 => ?_⟩
      have hr1 : ∀ i, i < (IN ++ b).length → appF (fun i => SC.w8 (if i < 64 then L key i ^^^ 0x36#8 else 0#8)) 0 (scale 64 (0 + 1)) (scale b.length (0 + 1)) g i = .w8 (L (IN ++ b) i) := fun i hi => by
        rw [List.length_append, hINl] at hi
        unfold appF
        by_cases h64 : i < 64
        · rw [if_pos (by simpa [scale] using h64)]
          exact congrArg SC.w8 ((hINi i h64).trans (L_app1 (by omega)).symm)
        · rw [if_neg (by simpa [scale] using h64), if_pos (by simp only [scale]; omega), show scale 64 (0 + 1) = 64 from rfl, hg _ (by omega), L_app, if_neg (by omega), hINl]
      refine ⟨by kernel_rfl, call_same (fn_rsum false c1 0 c1 (IN ++ b) (by rw [List.length_append]; omega) (by rw [List.length_append]; omega) (fun h => Bool.noConfusion h) (by rw [List.length_append]; omega)) [4] rfl ⟨rfl, rfl, ?_, rfl, trivial⟩ ?_ (fun _ _ => trivial) ?_⟩
      · rw [List.length_append, hINl]
      · exact ⟨rfl, fun j hj => eqC_win0 hr1 j, trivial⟩
      rintro x hs ⟨c2, rfl, rfl, hc2⟩
      obtain ⟨S, hS⟩ : ∃ S, sumL (IN ++ b) = S := ⟨_, rfl⟩
      have hSl : S.length = 32 := by rw [← hS, sumL_len]
      rw [hS] at hml
      rw [hS]
      refine ⟨by simp only [scale]; omega, ⟨by omega, by simp only [scale]; omega, by show _ * 1 ≤ _; omega⟩, fun c3 hc3 => ?_⟩
      have hr2 : ∀ i, i < (OU ++ S).length → appF (fun i => SC.w8 (if i < 64 then L key i ^^^ 0x5c#8 else 0#8)) 0 (scale 64 (0 + 1)) (scale 32 (0 + 1)) (fun q => SC.mp (bk 5 [4]) (bytesF 32 (L S) (q + 0))) i = .w8 (L (OU ++ S) i) := fun i hi => by
        rw [List.length_append, hOUl, hSl] at hi
        unfold appF
        by_cases h64 : i < 64
        · rw [if_pos (by simpa [scale] using h64)]
          exact congrArg SC.w8 ((hOUi i h64).trans (L_app1 (by omega)).symm)
        · rw [if_neg (by simpa [scale] using h64), if_pos (by simp only [scale]; omega), show scale 64 (0 + 1) = 64 from rfl, L_app, if_neg (by omega), hOUl]
          show SC.mp _ (bytesF 32 (L S) (i - 64)) = _
          rw [bytesF_lt (by omega)]
          rfl
      refine ⟨by kernel_rfl, call_same (fn_rsum false c3 0 c3 (OU ++ S) (by rw [List.length_append]; omega) (by rw [List.length_append]; omega) (fun h => Bool.noConfusion h) (by rw [List.length_append]; omega)) [6] rfl ⟨rfl, rfl, ?_, rfl, trivial⟩ ?_ (fun _ _ => trivial) ?_⟩
      · rw [List.length_append, hOUl, hSl]
      · exact ⟨rfl, fun j hj => eqC_win0 hr2 j, trivial⟩
      rintro x hs ⟨c4, rfl, rfl, hc4⟩
      refine ⟨.a (.c (.sl 2 0 0 32 c4)), [bts false Nk ok key.length (L key), bts zb Nb ob b.length (L b), [.row c4 (bytesF 32 (L (markL key b)))]], ⟨[0, 1, 7], ⟨rfl, rfl, rfl⟩, ?_⟩, c4, rfl, rfl, hc4⟩
      rw [hml]
      (repeat first | exact trivial | refine ⟨rfl, ?_⟩ | refine ⟨fun _ _ => ⟨rfl, trivial⟩, ?_⟩ | refine ⟨fun _ _ => trivial, ?_⟩ | refine ⟨by omega, ?_⟩ | refine ⟨fun _ _ => eqC_winS, ?_⟩ | refine ⟨fun _ _ => eqC_winM, ?_⟩ | refine ⟨fun _ _ => eqC_winB, ?_⟩ | refine ⟨fun _ _ => eqC_selfB, ?_⟩ | refine ⟨fun _ _ => eqC_mpB, ?_⟩)
      refine eqC_bts ?_
      (repeat first | exact trivial | refine ⟨rfl, ?_⟩ | refine ⟨fun _ _ => ⟨rfl, trivial⟩, ?_⟩ | refine ⟨fun _ _ => trivial, ?_⟩ | refine ⟨by omega, ?_⟩ | refine ⟨fun _ _ => eqC_winS, ?_⟩ | refine ⟨fun _ _ => eqC_winM, ?_⟩ | refine ⟨fun _ _ => eqC_winB, ?_⟩ | refine ⟨fun _ _ => eqC_selfB, ?_⟩ | refine ⟨fun _ _ => eqC_mpB, ?_⟩)
end Sx
end Go.Proofs.Ytndlhhhebijknaa
