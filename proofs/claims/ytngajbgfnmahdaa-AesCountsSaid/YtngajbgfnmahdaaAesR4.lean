/-
  The document's block, turned. No condition.
-/
import Derived.Test.YtngajbgfnmahdaaAesR3
namespace Go.Proofs.Ytngajbgfnmahdaa
namespace Sx
open Aes

theorem upd_bytes {n k : Nat} {f g : Nat → BitVec 8} {v : SC} (hk : k < n) (hv : v = .w8 (g k)) (hf : ∀ j, j ≠ k → f j = g j) (j : Nat) (hj : j < n) : upd (bytesF n f) k v j = .w8 (g j) := by
  unfold upd
  split
  · rename_i h; rw [h, hv]
  · rename_i h; rw [bytesF_lt hj, hf j h]
theorem eqC_self {q : List Nat} {n : Nat} {b : Nat → BitVec 8} {j : Nat} : eqC q (bytesF n b j) (bytesF n b j) True := eqC_bytes (fun _ h => bytesF_lt h) j
theorem eqC_mp {q : List Nat} {g : Nat → Nat} {n : Nat} {b : Nat → BitVec 8} {j : Nat} : eqC q (SC.mp g (bytesF n b j)) (bytesF n b j) True :=
  eqC_bytes (f := fun j => SC.mp g (bytesF n b j)) (fun j h => by rw [bytesF_lt h]; rfl) j
set_option maxRecDepth 20000 in
set_option maxHeartbeats 4000000 in
theorem fn_rturn (B key block : Nat → BitVec 8) (cb ck cx : Nat) (hb : 256 ≤ cb) (hk : 16 ≤ ck) (hx : 16 ≤ cx) :
    Fn Try.prog tds 20 [[.row cb (bytesF 256 B)], [.row ck (bytesF 16 key)], [.row cx (bytesF 16 block)]] [.c (.sl 0 0 0 256 cb), .c (.sl 1 0 0 16 ck), .c (.sl 2 0 0 16 cx)] (fun _ => True)
      (fun x hs => ∃ c, x = .a (.c (.sl 3 0 0 16 c)) ∧ hs = [[.row cb (bytesF 256 B)], [.row ck (bytesF 16 key)], [.row cx (bytesF 16 block)], [.row c (bytesF 16 (rTurnS B key block 10))]] ∧ 16 ≤ c) := by
  refine fn_of_body tds_ok follows_ Try.func20 rfl (t := [.a (.c (.sl 0 0 0 256 cb)), .a (.c (.sl 1 0 0 16 ck)), .a (.c (.sl 2 0 0 16 cx)), .any, .any, .any, .any, .any, .any, .any, .any, .any, .any, .any, .any, .any, .any, .any, .any, .any, .any, .any, .any, .any, .any, .any, .any, .any, .any, .any, .any, .any, .any, .any, .any, .any, .any, .any, .any, .any, .any, .any, .any, .any, .any, .any, .any, .any, .any, .any, .any, .any, .any, .any, .any, .any, .any, .any, .any, .any, .any, .any, .any, .any, .any, .any, .any, .any, .any, .any, .any, .any, .any, .any, .any, .any, .any, .any, .any, .any, .any, .any, .any, .any, .any, .any, .any, .any, .any, .any, .any, .any, .any]) rfl (fun w r0 hr _ => ?_)
  obtain ⟨x0, x1, x2, rfl⟩ := len3 hr
  refine ⟨by kernel_rfl, call_same (fn_rkeys B key cb ck hb hk) [0, 1] rfl ⟨rfl, rfl, rfl, rfl, rfl, rfl, trivial⟩ ⟨rfl, fun j hj => eqC_self, rfl, fun j hj => eqC_self, trivial⟩ (fun _ _ => trivial) ?_⟩
  rintro x hs ⟨cw, rfl, rfl, hw⟩
  refine ⟨by simp [scale]; omega, ⟨by omega, by simp [scale], by decide⟩, fun c0 hc0 => ?_⟩
  refine .inl ⟨Nat, fun k => ⟨[.a (.c (.sl 0 0 0 256 cb)), .any, .any, .any, .any, .any, .any, .a (.c (.sl 3 0 0 176 cw)), .a (.c (.sl 4 0 0 16 c0)), .a (.c (.int .i64 (↑k))), .any, .any, .any, .any, .any, .any, .any, .any, .any, .any, .any, .any, .any, .any, .any, .any, .any, .any, .any, .any, .any, .any, .any, .any, .any, .any, .any, .any, .any, .any, .any, .any, .any, .any, .any, .any, .any, .any, .any, .any, .any, .any, .any, .any, .any, .any, .any, .any, .any, .any, .any, .any, .any, .any, .any, .any, .any, .any, .any, .any, .any, .any, .any, .any, .any, .any, .any, .any, .any, .any, .any, .any, .any, .any, .any, .any, .any, .any, .any, .any, .any, .any, .any], [[.row cb (bytesF 256 B)], [.row ck (bytesF 16 key)], [.row cx (bytesF 16 block)], [.row cw (bytesF 176 (rKeys B key))], [.row c0 (bytesF 16 fun j => if j < k then block j ^^^ rKeys B key j else block j)]]⟩, fun k => k ≤ 16, fun k => 16 - k, ⟨0, [0, 1, 2, 3, 5], ⟨⟨rfl, rfl, rfl⟩, ?_⟩, by omega⟩, fun k hk16 => ⟨fun h => ?_, fun h => ?_⟩⟩
  · refine ⟨rfl, rfl, rfl, rfl, rfl, rfl, rfl, rfl, rfl, rfl, rfl, fun j hj => by first | exact eqC_self | exact eqC_mp, rfl, fun j hj => by first | exact eqC_self | exact eqC_mp, rfl, fun j hj => by first | exact eqC_self | exact eqC_mp, rfl, fun j hj => by first | exact eqC_self | exact eqC_mp, rfl, fun j hj => eqC_bytes (fun i hi => ?_) j, trivial⟩
    unfold appF
    rw [if_neg (by simp [scale]), if_pos (by simpa [scale] using hi), if_neg (by omega)]
    exact bytesF_lt hi
  · have hlt : (k : Int) < 16 := of_decide_eq_true h
    refine ⟨none, [], [(0, true), (1, true), (2, true), (3, true), (4, true), (5, true), (6, true), (7, true), (8, true), (9, true), (10, true), (11, true)], [12], by kernel_rfl, ?_⟩
    repeat first
      | refine frc_bytes (by omega) ?_
      | refine ⟨by omega, ?_⟩
    refine ⟨rfl, ⟨by omega, by omega⟩, k + 1, [0, 1, 2, 3, 4], ⟨⟨rfl, rfl, rfl⟩, ?_⟩, by dsimp only; omega, by dsimp only; omega⟩
    refine ⟨rfl, rfl, rfl, rfl, rfl, rfl, rfl, rfl, rfl, rfl, rfl, fun j hj => eqC_self, rfl, fun j hj => eqC_self, rfl, fun j hj => eqC_self, rfl, fun j hj => eqC_self, rfl, fun j hj => eqC_bytes (fun i hi => ?_) j, trivial⟩
    have e : (k : Int).toNat + 0 = k := by omega
    rw [e]
    refine upd_bytes (k := k) (g := fun j => if j < k + 1 then block j ^^^ rKeys B key j else block j) (by omega) (congrArg SC.w8 ?_) (fun j hjk => ?_) i hi
    · rw [if_neg (by omega), if_pos (by omega)]
    · have : j < k + 1 ↔ j < k := by omega
      simp only [this]
  · obtain rfl : k = 16 := by have : ¬ (k : Int) < 16 := of_decide_eq_false h; have hk : k ≤ 16 := hk16; omega
    refine .inl ⟨Nat × Nat, fun (r, c) => ⟨[.a (.c (.sl 0 0 0 256 cb)), .any, .any, .any, .any, .any, .any, .a (.c (.sl 3 0 0 176 cw)), .a (.c (.sl 4 0 0 16 c)), .any, .a (.c (.int .i64 (↑(r + 1)))), .any, .any, .any, .any, .any, .any, .any, .any, .any, .any, .any, .any, .any, .any, .any, .any, .any, .any, .any, .any, .any, .any, .any, .any, .any, .any, .any, .any, .any, .any, .any, .any, .any, .any, .any, .any, .any, .any, .any, .any, .any, .any, .any, .any, .any, .any, .any, .any, .any, .any, .any, .any, .any, .any, .any, .any, .any, .any, .any, .any, .any, .any, .any, .any, .any, .any, .any, .any, .any, .any, .any, .any, .any, .any, .any, .any, .any, .any, .any, .any, .any, .any], [[.row cb (bytesF 256 B)], [.row ck (bytesF 16 key)], [.row cx (bytesF 16 block)], [.row cw (bytesF 176 (rKeys B key))], [.row c (bytesF 16 (rTurnS B key block r))]]⟩, fun (r, c) => r ≤ 10 ∧ 16 ≤ c, fun (r, _) => 10 - r, ⟨(0, c0), [0, 1, 2, 3, 4], ⟨⟨rfl, rfl, rfl⟩, ?_⟩, by omega, by omega⟩, fun x => ?_⟩
    · exact ⟨rfl, rfl, rfl, rfl, rfl, rfl, rfl, rfl, rfl, rfl, rfl, fun j hj => eqC_self, rfl, fun j hj => eqC_self, rfl, fun j hj => eqC_self, rfl, fun j hj => eqC_self, rfl, fun j hj => eqC_bytes (f := bytesF 16 _) (fun i hi => (bytesF_lt hi).trans (congrArg SC.w8 (if_pos hi))) j, trivial⟩
    · obtain ⟨r, c⟩ := x
      rintro ⟨hr, hc⟩
      refine ⟨fun h => ?_, fun h => ?_⟩
      · have hlt : ((r + 1 : Nat) : Int) ≤ 10 := of_decide_eq_true h
        refine ⟨by decide, ?_⟩
        refine .inl ⟨Nat, fun m => ⟨[.a (.c (.sl 0 0 0 256 cb)), .any, .any, .any, .any, .any, .any, .a (.c (.sl 3 0 0 176 cw)), .a (.c (.sl 4 0 0 16 c)), .any, .a (.c (.int .i64 (↑(r + 1)))), .a (.c (.sl 5 0 0 16 16)), .a (.c (.int .i64 (↑m))), .any, .any, .any, .any, .any, .any, .any, .any, .any, .any, .any, .any, .any, .any, .any, .any, .any, .any, .any, .any, .any, .any, .any, .any, .any, .any, .any, .any, .any, .any, .any, .any, .any, .any, .any, .any, .any, .any, .any, .any, .any, .any, .any, .any, .any, .any, .any, .any, .any, .any, .any, .any, .any, .any, .any, .any, .any, .any, .any, .any, .any, .any, .any, .any, .any, .any, .any, .any, .any, .any, .any, .any, .any, .any, .any, .any, .any, .any, .any, .any], [[.row cb (bytesF 256 B)], [.row ck (bytesF 16 key)], [.row cx (bytesF 16 block)], [.row cw (bytesF 176 (rKeys B key))], [.row c (bytesF 16 (rTurnS B key block r))], [.row 16 fun j => .w8 (if j < 4 * m then rShift B (rTurnS B key block r) j else 0#8)]]⟩, fun m => m ≤ 4, fun m => 4 - m, ⟨0, [0, 1, 2, 3, 4, 5], ⟨⟨rfl, rfl, rfl⟩, ?_⟩, by omega⟩, fun m hm => ⟨fun h => ?_, fun h => ?_⟩⟩
        · exact ⟨rfl, rfl, rfl, rfl, rfl, rfl, rfl, rfl, rfl, rfl, rfl, rfl, rfl, rfl, rfl, fun j hj => eqC_self, rfl, fun j hj => eqC_self, rfl, fun j hj => eqC_self, rfl, fun j hj => eqC_self, rfl, fun j hj => eqC_self, rfl, fun j hj => ⟨by simp, trivial⟩, trivial⟩
        · have hlm : (m : Int) < 4 := of_decide_eq_true h
          refine .inl ⟨Nat, fun q => ⟨[.a (.c (.sl 0 0 0 256 cb)), .any, .any, .any, .any, .any, .any, .a (.c (.sl 3 0 0 176 cw)), .a (.c (.sl 4 0 0 16 c)), .any, .a (.c (.int .i64 (↑(r + 1)))), .a (.c (.sl 5 0 0 16 16)), .a (.c (.int .i64 (↑m))), .a (.c (.int .i64 (↑q))), .any, .any, .any, .any, .any, .any, .any, .any, .any, .any, .any, .any, .any, .any, .any, .any, .any, .any, .any, .any, .any, .any, .any, .any, .any, .any, .any, .any, .any, .any, .any, .any, .any, .any, .any, .any, .any, .any, .any, .any, .any, .any, .any, .any, .any, .any, .any, .any, .any, .any, .any, .any, .any, .any, .any, .any, .any, .any, .any, .any, .any, .any, .any, .any, .any, .any, .any, .any, .any, .any, .any, .any, .any, .any, .any, .any, .any, .any, .any], [[.row cb (bytesF 256 B)], [.row ck (bytesF 16 key)], [.row cx (bytesF 16 block)], [.row cw (bytesF 176 (rKeys B key))], [.row c (bytesF 16 (rTurnS B key block r))], [.row 16 fun j => .w8 (if j < 4 * m + q then rShift B (rTurnS B key block r) j else 0#8)]]⟩, fun q => q ≤ 4, fun q => 4 - q, ⟨0, [0, 1, 2, 3, 4, 5], ⟨⟨rfl, rfl, rfl⟩, ?_⟩, by omega⟩, fun q hq => ⟨fun h => ?_, fun h => ?_⟩⟩
          · exact ⟨rfl, rfl, rfl, rfl, rfl, rfl, rfl, rfl, rfl, rfl, rfl, rfl, rfl, rfl, rfl, rfl, fun j hj => eqC_self, rfl, fun j hj => eqC_self, rfl, fun j hj => eqC_self, rfl, fun j hj => eqC_self, rfl, fun j hj => eqC_self, rfl, fun j hj => ⟨rfl, trivial⟩, trivial⟩
          · have hlq : (q : Int) < 4 := of_decide_eq_true h
            repeat first
              | refine frc_bytes (lt8 (Nat.le_refl _) _) ?_
              | refine frc_bytes (by omega) ?_
              | refine ⟨idx8 _, ?_⟩
              | refine ⟨lt8 hb _, ?_⟩
              | refine ⟨by omega, ?_⟩
            refine ⟨rfl, ⟨by omega, by omega⟩, q + 1, [0, 1, 2, 3, 4, 5], ⟨⟨rfl, rfl, rfl⟩, ?_⟩, by dsimp only; omega, by dsimp only; omega⟩
            refine ⟨rfl, rfl, rfl, rfl, rfl, rfl, rfl, rfl, rfl, rfl, rfl, rfl, rfl, rfl, rfl, rfl, fun j hj => eqC_self, rfl, fun j hj => eqC_self, rfl, fun j hj => eqC_self, rfl, fun j hj => eqC_self, rfl, fun j hj => eqC_self, rfl, fun j hj => eqC_w8 ?_, trivial⟩
            have e0 : (4 * (m : Int) + q).toNat + 0 = 4 * m + q := by omega
            have e1 : (4 * (((m : Int) + q) % 4) + q).toNat + 0 = 4 * (((4 * m + q) / 4 + (4 * m + q) % 4) % 4) + (4 * m + q) % 4 := by omega
            have e2 : ∀ x : BitVec 8, ((x.toNat : Int)).toNat + 0 = x.toNat := fun x => by omega
            rw [e0, e1, e2]
            refine (upd_w8 (g := fun j => .w8 (if j < 4 * m + (q + 1) then rShift B (rTurnS B key block r) j else 0#8)) ?_ ?_ j).trans rfl
            · simp only [if_pos (show 4 * m + q < 4 * m + (q + 1) by omega)]
              rfl
            · intro j hjk
              have : j < 4 * m + (q + 1) ↔ j < 4 * m + q := by omega
              simp only [this]
          · obtain rfl : q = 4 := by have : ¬ (q : Int) < 4 := of_decide_eq_false h; have hq : q ≤ 4 := hq; omega
            refine ⟨⟨by omega, by omega⟩, m + 1, [0, 1, 2, 3, 4, 5], ⟨⟨rfl, rfl, rfl⟩, ?_⟩, by dsimp only; omega, by dsimp only; omega⟩
            refine ⟨rfl, rfl, rfl, rfl, rfl, rfl, rfl, rfl, rfl, rfl, rfl, rfl, rfl, rfl, rfl, fun j hj => eqC_self, rfl, fun j hj => eqC_self, rfl, fun j hj => eqC_self, rfl, fun j hj => eqC_self, rfl, fun j hj => eqC_self, rfl, fun j hj => eqC_w8 ?_, trivial⟩
            rw [show 4 * (m + 1) = 4 * m + 4 by omega]
        · obtain rfl : m = 4 := by have : ¬ (m : Int) < 4 := of_decide_eq_false h; have hm : m ≤ 4 := hm; omega
          refine ⟨fun h2 => ?_, fun h2 => ?_⟩
          · have h3 : r + 1 < 10 := by have : ((r + 1 : Nat) : Int) < 10 := of_decide_eq_true h2; omega
            refine ⟨by kernel_rfl, call_same (fn_rmixed (rShift B (rTurnS B key block r))) [5] rfl ⟨rfl, rfl, rfl, trivial⟩ ⟨rfl, fun j hj => eqC_w8 (congrArg SC.w8 (if_pos hj)), trivial⟩ (fun _ _ => trivial) ?_⟩
            rintro x hs ⟨rfl, rfl⟩
            refine .inl ⟨Nat, fun k => ⟨[.a (.c (.sl 0 0 0 256 cb)), .any, .any, .any, .any, .any, .any, .a (.c (.sl 3 0 0 176 cw)), .a (.c (.sl 4 0 0 16 c)), .any, .a (.c (.int .i64 (↑(r + 1)))), .a (.c (.sl 5 0 0 16 16)), .any, .any, .a (.c (.int .i64 (↑k))), .any, .any, .any, .any, .any, .any, .any, .any, .any, .any, .any, .any, .any, .any, .any, .any, .any, .any, .any, .any, .any, .any, .any, .any, .any, .any, .any, .any, .any, .any, .any, .any, .any, .any, .any, .any, .any, .any, .any, .any, .any, .any, .any, .any, .any, .any, .any, .any, .any, .any, .any, .any, .any, .any, .any, .any, .any, .any, .any, .any, .any, .any, .any, .any, .any, .any, .any, .any, .any, .any, .any, .any, .any, .any, .any, .any, .any, .any], [[.row cb (bytesF 256 B)], [.row ck (bytesF 16 key)], [.row cx (bytesF 16 block)], [.row cw (bytesF 176 (rKeys B key))], [.row c (bytesF 16 fun j => if j < k then rTurnS B key block (r + 1) j else rTurnS B key block r j)], [.row 16 fun j => .w8 (rMixAt (rShift B (rTurnS B key block r)) j)]]⟩, fun k => k ≤ 16, fun k => 16 - k, ⟨0, [0, 1, 2, 3, 4, 6], ⟨⟨rfl, rfl, rfl⟩, ?_⟩, by omega⟩, fun k hk16 => ⟨fun h => ?_, fun h => ?_⟩⟩
            · exact ⟨rfl, rfl, rfl, rfl, rfl, rfl, rfl, rfl, rfl, rfl, rfl, rfl, rfl, rfl, rfl, fun j hj => eqC_self, rfl, fun j hj => eqC_self, rfl, fun j hj => eqC_self, rfl, fun j hj => eqC_self, rfl, fun j hj => eqC_self, rfl, fun j hj => ⟨rfl, trivial⟩, trivial⟩
            · have hlt2 : (k : Int) < 16 := of_decide_eq_true h
              refine ⟨none, [], [(0, true), (1, true), (2, true), (3, true), (4, true), (5, true), (6, true), (7, true), (8, true), (9, true), (10, true), (11, true), (12, true), (13, true), (14, true)], [15], by kernel_rfl, ?_⟩
              repeat first
                | with_reducible refine frc_bytes (by omega) ?_
                | refine ⟨by omega, ?_⟩
              refine ⟨rfl, ⟨by omega, by omega⟩, k + 1, [0, 1, 2, 3, 4, 5], ⟨⟨rfl, rfl, rfl⟩, ?_⟩, by dsimp only; omega, by dsimp only; omega⟩
              refine ⟨rfl, rfl, rfl, rfl, rfl, rfl, rfl, rfl, rfl, rfl, rfl, rfl, rfl, rfl, rfl, fun j hj => eqC_self, rfl, fun j hj => eqC_self, rfl, fun j hj => eqC_self, rfl, fun j hj => eqC_self, rfl, fun j hj => eqC_bytes (fun i hi => ?_) j, rfl, fun j hj => ⟨rfl, trivial⟩, trivial⟩
              have e : (k : Int).toNat + 0 = k := by omega
              have e2 : (16 * ((r + 1 : Nat) : Int) + k).toNat + 0 = 16 * (r + 1) + k := by omega
              rw [e, e2]
              refine upd_bytes (k := k) (g := fun j => if j < k + 1 then rTurnS B key block (r + 1) j else rTurnS B key block r j) (by omega) (congrArg SC.w8 ?_) (fun j hjk => ?_) i hi
              · rw [if_pos (by omega)]
                show _ = (if r + 1 < 10 then rMixAt (rShift B (rTurnS B key block r)) else rShift B (rTurnS B key block r)) k ^^^ rKeys B key (16 * (r + 1) + k)
                rw [if_pos h3]
              · have : j < k + 1 ↔ j < k := by omega
                simp only [this]
            · obtain rfl : k = 16 := by have : ¬ (k : Int) < 16 := of_decide_eq_false h; have hk : k ≤ 16 := hk16; omega
              refine ⟨⟨by omega, by omega⟩, (r + 1, c), [0, 1, 2, 3, 4], ⟨⟨rfl, rfl, rfl⟩, ?_⟩, ⟨by omega, by omega⟩, by dsimp only; omega⟩
              exact ⟨rfl, rfl, rfl, rfl, rfl, rfl, rfl, rfl, rfl, rfl, rfl, fun j hj => eqC_self, rfl, fun j hj => eqC_self, rfl, fun j hj => eqC_self, rfl, fun j hj => eqC_self, rfl, fun j hj => eqC_bytes (f := bytesF 16 _) (fun i hi => (bytesF_lt hi).trans (congrArg SC.w8 (if_pos hi))) j, trivial⟩
          · have h3 : ¬ r + 1 < 10 := by have : ¬ ((r + 1 : Nat) : Int) < 10 := of_decide_eq_false h2; omega
            refine .inl ⟨Nat, fun k => ⟨[.a (.c (.sl 0 0 0 256 cb)), .any, .any, .any, .any, .any, .any, .a (.c (.sl 3 0 0 176 cw)), .a (.c (.sl 4 0 0 16 c)), .any, .a (.c (.int .i64 (↑(r + 1)))), .a (.c (.sl 5 0 0 16 16)), .any, .any, .a (.c (.int .i64 (↑k))), .any, .any, .any, .any, .any, .any, .any, .any, .any, .any, .any, .any, .any, .any, .any, .any, .any, .any, .any, .any, .any, .any, .any, .any, .any, .any, .any, .any, .any, .any, .any, .any, .any, .any, .any, .any, .any, .any, .any, .any, .any, .any, .any, .any, .any, .any, .any, .any, .any, .any, .any, .any, .any, .any, .any, .any, .any, .any, .any, .any, .any, .any, .any, .any, .any, .any, .any, .any, .any, .any, .any, .any, .any, .any, .any, .any, .any, .any], [[.row cb (bytesF 256 B)], [.row ck (bytesF 16 key)], [.row cx (bytesF 16 block)], [.row cw (bytesF 176 (rKeys B key))], [.row c (bytesF 16 fun j => if j < k then rTurnS B key block (r + 1) j else rTurnS B key block r j)], [.row 16 fun j => .w8 (rShift B (rTurnS B key block r) j)]]⟩, fun k => k ≤ 16, fun k => 16 - k, ⟨0, [0, 1, 2, 3, 4, 5], ⟨⟨rfl, rfl, rfl⟩, ?_⟩, by omega⟩, fun k hk16 => ⟨fun h => ?_, fun h => ?_⟩⟩
            · exact ⟨rfl, rfl, rfl, rfl, rfl, rfl, rfl, rfl, rfl, rfl, rfl, rfl, rfl, rfl, rfl, fun j hj => eqC_self, rfl, fun j hj => eqC_self, rfl, fun j hj => eqC_self, rfl, fun j hj => eqC_self, rfl, fun j hj => eqC_self, rfl, fun j hj => eqC_w8 (congrArg SC.w8 (if_pos hj)), trivial⟩
            · have hlt2 : (k : Int) < 16 := of_decide_eq_true h
              refine ⟨none, [], [(0, true), (1, true), (2, true), (3, true), (4, true), (5, true), (6, true), (7, true), (8, true), (9, true), (10, true), (11, true), (12, true), (13, true), (14, true)], [15], by kernel_rfl, ?_⟩
              repeat first
                | with_reducible refine frc_bytes (by omega) ?_
                | refine ⟨by omega, ?_⟩
              refine ⟨rfl, ⟨by omega, by omega⟩, k + 1, [0, 1, 2, 3, 4, 5], ⟨⟨rfl, rfl, rfl⟩, ?_⟩, by dsimp only; omega, by dsimp only; omega⟩
              refine ⟨rfl, rfl, rfl, rfl, rfl, rfl, rfl, rfl, rfl, rfl, rfl, rfl, rfl, rfl, rfl, fun j hj => eqC_self, rfl, fun j hj => eqC_self, rfl, fun j hj => eqC_self, rfl, fun j hj => eqC_self, rfl, fun j hj => eqC_bytes (fun i hi => ?_) j, rfl, fun j hj => ⟨rfl, trivial⟩, trivial⟩
              have e : (k : Int).toNat + 0 = k := by omega
              have e2 : (16 * ((r + 1 : Nat) : Int) + k).toNat + 0 = 16 * (r + 1) + k := by omega
              rw [e, e2]
              refine upd_bytes (k := k) (g := fun j => if j < k + 1 then rTurnS B key block (r + 1) j else rTurnS B key block r j) (by omega) (congrArg SC.w8 ?_) (fun j hjk => ?_) i hi
              · rw [if_pos (by omega)]
                show _ = (if r + 1 < 10 then rMixAt (rShift B (rTurnS B key block r)) else rShift B (rTurnS B key block r)) k ^^^ rKeys B key (16 * (r + 1) + k)
                rw [if_neg h3]
              · have : j < k + 1 ↔ j < k := by omega
                simp only [this]
            · obtain rfl : k = 16 := by have : ¬ (k : Int) < 16 := of_decide_eq_false h; have hk : k ≤ 16 := hk16; omega
              refine ⟨⟨by omega, by omega⟩, (r + 1, c), [0, 1, 2, 3, 4], ⟨⟨rfl, rfl, rfl⟩, ?_⟩, ⟨by omega, by omega⟩, by dsimp only; omega⟩
              exact ⟨rfl, rfl, rfl, rfl, rfl, rfl, rfl, rfl, rfl, rfl, rfl, fun j hj => eqC_self, rfl, fun j hj => eqC_self, rfl, fun j hj => eqC_self, rfl, fun j hj => eqC_self, rfl, fun j hj => eqC_bytes (f := bytesF 16 _) (fun i hi => (bytesF_lt hi).trans (congrArg SC.w8 (if_pos hi))) j, trivial⟩
      · obtain rfl : r = 10 := by have : ¬ ((r + 1 : Nat) : Int) ≤ 10 := of_decide_eq_false h; omega
        exact ⟨.a (.c (.sl 3 0 0 16 c)), [[.row cb (bytesF 256 B)], [.row ck (bytesF 16 key)], [.row cx (bytesF 16 block)], [.row c (bytesF 16 (rTurnS B key block 10))]], ⟨[0, 1, 2, 4], ⟨rfl, rfl, rfl⟩, rfl, rfl, rfl, rfl, fun j hj => eqC_self, rfl, fun j hj => eqC_self, rfl, fun j hj => eqC_self, rfl, fun j hj => eqC_self, trivial⟩, c, rfl, rfl, hc⟩
end Sx
end Go.Proofs.Ytngajbgfnmahdaa
