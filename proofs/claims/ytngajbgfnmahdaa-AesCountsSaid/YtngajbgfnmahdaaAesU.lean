/-
  The program's block, turned by a key. No condition.
-/
import Derived.Test.YtngajbgfnmahdaaSxs
import Derived.Test.YtngajbgfnmahdaaAesK
namespace Go.Proofs.Ytngajbgfnmahdaa
namespace Sx
open Aes

theorem tabs_at {n : Int} {d : BitVec 32} {b : Nat → BitVec 8} {m : Int} {i : Nat} (hi : i < 256) : (flat (tabs d m b n))[3 + i]? = some (.w8 (b i)) := by
  have e : flat (tabs d m b n) = .w32 d :: .int .i32 m :: .w32 0 :: ((List.range 256).map (fun i => SC.w8 (b i)) ++ [.int .i64 n]) := rfl
  rw [e, show 3 + i = i + 1 + 1 + 1 by omega, List.getElem?_cons_succ, List.getElem?_cons_succ, List.getElem?_cons_succ, List.getElem?_append_left (by simpa using hi), List.getElem?_map, List.getElem?_range hi]
  rfl
/-- Tables that are only read. -/
theorem fn_shift_q (a : Addr) (b : Nat → BitVec 8) (n : Int) : Fn Try.prog tds 47 [] [.c (.ptr (some a)), blk b] (fun w => Held w a (tabs 1 0 boxes n)) (fun x hs => x = .a (blk (shiftAt b)) ∧ hs = []) := by
  refine fn_of_body tds_ok follows_ Try.func47 rfl (t := .a (.c (.ptr (some a))) :: .a (blk b) :: anys 32) rfl (fun w r0 hr hraw => ?_)
  obtain rfl : r0 = [] := List.eq_nil_of_length_eq_zero hr
  refine ⟨rfl, .inl ⟨Nat, fun k => ⟨[.a (.c (.ptr (some a))), .any, .any, .a (.c (.p 0 0 0)), .a (.c (.p 1 0 0)), .a (.c (.p 2 0 0)), .any, .any, .any, .a (.c (.int .i64 (↑k))), .any, .any, .any, .any, .any, .any, .any, .any, .any, .any, .any, .any, .any, .any, .any, .any, .any, .any, .any, .any, .any, .any, .any, .any], [[.row 16 fun i => .w8 (b i)], [.row 16 fun _ => .w8 0], [.row 16 fun i => .w8 (if i < k then shiftAt b i else 0#8)]]⟩, fun k => k ≤ 16, fun k => 16 - k, ⟨0, [0, 1, 2], ⟨⟨rfl, rfl, rfl⟩, ?_⟩, by omega⟩, fun k hk => ⟨fun h => ?_, fun h => ?_⟩⟩⟩
  · exact ⟨rfl, rfl, rfl, rfl, rfl, rfl, fun j hj => ⟨rfl, trivial⟩, rfl, fun j hj => ⟨rfl, trivial⟩, rfl, fun j hj => ⟨by simp, trivial⟩, trivial⟩
  · have hlt : (k : Int) < 16 := of_decide_eq_true h
    repeat refine ⟨by omega, ?_⟩
    refine ⟨none, [], [(0, true), (1, true), (2, true), (3, true), (4, true), (5, true), (6, true), (7, true), (8, true), (9, true), (10, true), (11, true), (12, true), (13, true), (14, true), (15, true)], [16], by kernel_rfl, ?_⟩
    repeat first
      | refine ⟨by omega, ?_⟩
      | refine ⟨idx8 _, ?_⟩
      | refine ⟨lt8 (Nat.le_refl _) _, ?_⟩
    have e1 : (4 * (((k : Int) / 4 + (k : Int) % 4) % 4) + (k : Int) % 4).toNat + 0 = 4 * ((k / 4 + k % 4) % 4) + k % 4 := by
      rw [show (k : Int) / 4 + (k : Int) % 4 = ((k / 4 + k % 4 : Nat) : Int) by omega]
      omega
    refine ⟨[.one (.w8 (shiftAt b k))], ⟨?_, rfl⟩, ?_⟩
    · rw [e1, add_add hraw.1]
      refine hraw.one _ ?_
      rw [show ∀ x : BitVec 8, ((x.toNat : Int)).toNat * 1 = x.toNat from fun x => by omega, tabs_at (BitVec.isLt _), boxes_at]
      rfl
    repeat first
      | refine ⟨by omega, ?_⟩
    refine ⟨rfl, ⟨by omega, by omega⟩, k + 1, [0, 1, 2], ⟨⟨rfl, rfl, rfl⟩, ?_⟩, by dsimp only; omega, by dsimp only; omega⟩
    refine ⟨rfl, rfl, rfl, rfl, rfl, rfl, fun j hj => ⟨rfl, trivial⟩, rfl, fun j hj => ⟨rfl, trivial⟩, rfl, fun j hj => eqC_w8 ?_, trivial⟩
    have e0 : (k : Int).toNat + 0 = k := by omega
    rw [e0]
    refine (upd_w8 (g := fun i => .w8 (if i < k + 1 then shiftAt b i else 0#8)) ?_ ?_ j).trans rfl
    · simp only [if_pos (show k < k + 1 by omega)]
    · intro j hjk
      have : j < k + 1 ↔ j < k := by omega
      simp only [this]
  · obtain rfl : k = 16 := by have : ¬ (k : Int) < 16 := of_decide_eq_false h; have hk : k ≤ 16 := hk; omega
    exact ⟨by omega, rfl, rfl, by omega, .a (blk (shiftAt b)), [], ⟨[], ⟨rfl, rfl, rfl⟩, rfl, rfl, fun j hj => eqC_w8 (by simp [hj]), trivial⟩, rfl, rfl⟩
theorem put_count (n : Int) : Put [.one (.int .i64 (n + 1))] (tabs 1 0 boxes n) (tabs 1 0 boxes (n + 1)) 259 := by
  obtain ⟨l', e, hp⟩ := putS_spec (new := [.one (.int .i64 (n + 1))]) (l := tabs 1 0 boxes n) (b := 259) (o := 0) (k := fun l' => l' = tabs 1 0 boxes (n + 1)) rfl
  subst e
  exact hp
theorem tabs_count (d : BitVec 32) (m : Int) (b : Nat → BitVec 8) (n : Int) : (flat (tabs d m b n))[259]? = some (.int .i64 n) := by
  have e : flat (tabs d m b n) = .w32 d :: .int .i32 m :: .w32 0 :: ((List.range 256).map (fun i => SC.w8 (b i)) ++ [.int .i64 n]) := rfl
  rw [e, show 259 = 256 + 1 + 1 + 1 from rfl, List.getElem?_cons_succ, List.getElem?_cons_succ, List.getElem?_cons_succ, List.getElem?_append_right (by simp)]
  simp
theorem fn_turn (n : Int) (key b : Nat → BitVec 8) (hn : -9223372036854775808 ≤ n + 1 ∧ n + 1 ≤ 9223372036854775807) :
    Fn Try.prog tds 19 [tabs 1 0 boxes n, keyC (pKeys key)] [.c (.p 1 0 0), blk b] (fun _ => True) (fun x hs => x = .a (blk (pTurn key b)) ∧ hs = [tabs 1 0 boxes (n + 1), keyC (pKeys key)]) := by
  refine fn_of_body tds_ok follows_ Try.func19 rfl (t := .a (.c (.p 1 0 0)) :: .a (blk b) :: anys 58) rfl (fun w r0 hr _ => ?_)
  obtain ⟨x0, x1, rfl⟩ := len2' hr
  refine ⟨rfl, ?_⟩
  repeat first
    | refine ⟨fun _ => ?_, fun h => absurd h (by decide)⟩
    | refine ⟨fun h => absurd h (by decide), fun _ => ?_⟩
  refine ⟨by kernel_rfl, call_same (fn_i64_add (tabs_count _ _ _ n) (by simp) (put_count n) hn) [0] rfl ⟨rfl, rfl, trivial⟩ ⟨rfl, rfl, rfl, rfl, fun j hj => ⟨rfl, trivial⟩, rfl, trivial⟩ (fun _ _ => trivial) ?_⟩
  rintro x hs ⟨rfl, rfl⟩
  refine ⟨none, [], [(0, true), (1, true), (2, true), (3, true), (4, true), (5, true), (6, false)], [7], by kernel_rfl, ?_⟩
  repeat refine ⟨by omega, ?_⟩
  refine ⟨by decide, ?_⟩
  refine ⟨by kernel_rfl, call_same (fn_sum b (fun j => pKeys key (j + 0))) [] rfl ⟨rfl, rfl, fun j hj => ⟨rfl, trivial⟩, rfl, rfl, fun j hj => ⟨rfl, trivial⟩, trivial⟩ trivial (fun _ _ => trivial) ?_⟩
  rintro x hs ⟨rfl, rfl⟩
  refine ⟨rfl, rfl, .inl ⟨Nat, fun r => ⟨[.a (.c (.p 1 0 0)), .any, .any, .a (.c (.p 2 0 0)), .a (.c (.p 3 0 0)), .a (.c (.int .i64 (↑(r + 1)))), .any, .any, .any, .any, .any, .any, .any, .any, .any, .any, .any, .any, .any, .any, .any, .any, .any, .any, .any, .any, .any, .any, .any, .any, .any, .any, .any, .any, .any, .any, .any, .any, .any, .any, .any, .any, .any, .any, .any, .any, .any, .any, .any, .any, .any, .any, .any, .any, .any, .any, .any, .any, .any, .any], [tabs 1 0 boxes (n + 1), keyC (pKeys key), [.row 16 fun i => .w8 (pTurnS key b r i)], [.row 16 fun _ => .w8 0]]⟩, fun r => r ≤ 9, fun r => 9 - r, ⟨0, [0, 1, 2, 3], ⟨⟨rfl, rfl, rfl⟩, ?_⟩, by omega⟩, fun r hr => ⟨fun h => ?_, fun h => ?_⟩⟩⟩
  · (repeat first | exact trivial | refine ⟨rfl, ?_⟩ | refine ⟨fun _ _ => ⟨rfl, trivial⟩, ?_⟩ | refine ⟨by omega, ?_⟩)
  · have hlt : ((r + 1 : Nat) : Int) < 10 := of_decide_eq_true h
    refine ⟨none, [], [(0, true), (1, true), (2, true), (3, true), (4, true), (7, true), (8, true), (9, true), (10, true), (11, true), (12, true), (5, false), (6, false), (13, false)], [14], by kernel_rfl, ?_⟩
    repeat refine ⟨by omega, ?_⟩
    refine ⟨(by omega : ((r + 1 : Nat) : Int).toNat * 16 + 0 + 16 ≤ 176), ?_⟩
    refine ⟨by kernel_rfl, call_raw (args0 := fun R => [.c (.ptr (some (adr R 0 0))), blk (pTurnS key b r)]) (fun R => fn_shift_q _ _ (n + 1)) (fun R => rfl) (fun R w ok => ok.held (ch := tabs 1 0 boxes (n + 1)) rfl) ?_⟩
    rintro x hs ⟨rfl, rfl⟩
    refine ⟨by kernel_rfl, call_same (fn_mix _) [] rfl ⟨rfl, rfl, fun j hj => ⟨rfl, trivial⟩, trivial⟩ trivial (fun _ _ => trivial) ?_⟩
    rintro x hs ⟨rfl, rfl⟩
    refine ⟨by kernel_rfl, call_same (fn_sum _ (fun j => pKeys key (j + (((r + 1 : Nat) : Int).toNat * 16 + 0)))) [] rfl ⟨rfl, rfl, fun j hj => ⟨rfl, trivial⟩, rfl, rfl, fun j hj => ⟨rfl, trivial⟩, trivial⟩ trivial (fun _ _ => trivial) ?_⟩
    rintro x hs ⟨rfl, rfl⟩
    refine ⟨rfl, rfl, ⟨by omega, by omega⟩, r + 1, [0, 1, 2, 3], ⟨⟨rfl, rfl, rfl⟩, ?_⟩, by dsimp only; omega, by dsimp only; omega⟩
    (repeat first | exact trivial | refine ⟨rfl, ?_⟩ | refine ⟨fun _ _ => ⟨rfl, trivial⟩, ?_⟩ | refine ⟨by omega, ?_⟩)
    refine ⟨fun j hj => eqC_w8 (congrArg SC.w8 ?_), ?_⟩
    · show mixAt (shiftAt (pTurnS key b r)) j ^^^ pKeys key (j + (((r + 1 : Nat) : Int).toNat * 16 + 0)) = mixAt (shiftAt (pTurnS key b r)) j ^^^ pKeys key (16 * (r + 1) + j)
      rw [show j + (((r + 1 : Nat) : Int).toNat * 16 + 0) = 16 * (r + 1) + j by omega]
    · (repeat first | exact trivial | refine ⟨rfl, ?_⟩ | refine ⟨fun _ _ => ⟨rfl, trivial⟩, ?_⟩ | refine ⟨by omega, ?_⟩)
  · obtain rfl : r = 9 := by have : ¬ ((r + 1 : Nat) : Int) < 10 := of_decide_eq_false h; have hr : r ≤ 9 := hr; omega
    refine ⟨none, [], [(0, true), (1, true), (2, true), (3, true), (4, true), (6, true), (7, true), (8, true), (9, true), (10, true), (5, false), (11, false)], [12], by kernel_rfl, ?_⟩
    (repeat first | refine ⟨by omega, ?_⟩ | refine ⟨by decide, ?_⟩ | refine ⟨idx8 _, ?_⟩ | refine ⟨lt8 (Nat.le_refl _) _, ?_⟩)
    refine ⟨by kernel_rfl, call_raw (args0 := fun R => [.c (.ptr (some (adr R 0 0))), blk (pTurnS key b 9)]) (fun R => fn_shift_q _ _ (n + 1)) (fun R => rfl) (fun R w ok => ok.held (ch := tabs 1 0 boxes (n + 1)) rfl) ?_⟩
    rintro x hs ⟨rfl, rfl⟩
    refine ⟨by kernel_rfl, call_same (fn_sum _ (fun j => pKeys key (j + 160))) [] rfl ⟨rfl, rfl, fun j hj => ⟨rfl, trivial⟩, rfl, rfl, fun j hj => ⟨rfl, trivial⟩, trivial⟩ trivial (fun _ _ => trivial) ?_⟩
    rintro x hs ⟨rfl, rfl⟩
    refine ⟨rfl, rfl, by omega, .a (blk (pTurn key b)), [tabs 1 0 boxes (n + 1), keyC (pKeys key)], ⟨[0, 1], ⟨rfl, rfl, rfl⟩, ?_⟩, rfl, rfl⟩
    (repeat first | exact trivial | refine ⟨rfl, ?_⟩ | refine ⟨fun _ _ => ⟨rfl, trivial⟩, ?_⟩ | refine ⟨by omega, ?_⟩)
    refine ⟨fun j hj => eqC_w8 (congrArg SC.w8 ?_), ?_⟩
    · show shiftAt (pTurnS key b 9) j ^^^ pKeys key (j + 160) = shiftAt (pTurnS key b 9) j ^^^ pKeys key (160 + j)
      rw [Nat.add_comm]
    · (repeat first | exact trivial | refine ⟨rfl, ?_⟩ | refine ⟨fun _ _ => ⟨rfl, trivial⟩, ?_⟩ | refine ⟨by omega, ?_⟩)
theorem fn_turned (d : BitVec 32) (b : Nat → BitVec 8) (n : Int) : Fn Try.prog tds 25 [tabs d 0 b n] [.c (.p 0 0 0)] (fun _ => True) (fun x hs => x = .a (.c (.int .i64 n)) ∧ hs = [tabs d 0 b n]) := by
  refine fn_of_body tds_ok follows_ Try.func25 rfl (t := .a (.c (.p 0 0 0)) :: anys (Try.f25.ntmps - 1)) rfl (fun w r0 hr _ => ?_)
  obtain ⟨x0, rfl⟩ := List.length_eq_one_iff.1 hr
  refine ⟨fun h => absurd h (by decide), fun _ => ?_⟩
  refine ⟨by kernel_rfl, call_same (fn_i64_load (tabs_count _ _ _ n)) [0] rfl ⟨rfl, trivial⟩ ⟨rfl, rfl, rfl, rfl, fun j hj => ⟨rfl, trivial⟩, rfl, trivial⟩ (fun _ _ => trivial) ?_⟩
  rintro x hs ⟨rfl, rfl⟩
  refine ⟨.a (.c (.int .i64 n)), [tabs d 0 b n], ⟨[0], ⟨rfl, rfl, rfl⟩, ?_⟩, rfl, rfl⟩
  (repeat first | exact trivial | refine ⟨rfl, ?_⟩ | refine ⟨fun _ _ => ⟨rfl, trivial⟩, ?_⟩ | refine ⟨by omega, ?_⟩)
end Sx
end Go.Proofs.Ytngajbgfnmahdaa
