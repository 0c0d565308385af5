/-
  Texts of this claim, part 7: KdfC, KdfD, AesR3, AesT, AesK, AesU, GcmP, GcmM, GcmA, AesN, GcmB, Frc, GcmC, GcmD, GcmE, KeysA. No condition of its own.
-/
import Derived.Test.YtndlhhhebijknaaG6
section
/-
  Secrets out of secrets: labels. No condition.
-/
namespace Go.Proofs.Ytndlhhhebijknaa
set_option linter.unusedVariables false
namespace Sha
def tls : Bs := [116#8, 108#8, 115#8, 49#8, 51#8, 32#8]
def BS (l : List UInt8) : Bs := l.map UInt8.toBitVec
@[simp] theorem BS_len (l : List UInt8) : (BS l).length = l.length := by simp [BS]
theorem L_BS (l : List UInt8) (i : Nat) (hi : i < l.length) : L (BS l) i = (l.getD i 0).toBitVec := by
  rw [L_lt (by simpa using hi), List.getD_eq_getElem?_getD, List.getElem?_eq_getElem hi]
  simp [BS]
/-- What a label is made of. -/
def labT (lab : List UInt8) (ctx : Bs) (n : Nat) : Bs := [BitVec.ofNat 8 (n / 256), BitVec.ofNat 8 n, BitVec.ofNat 8 (6 + lab.length)] ++ tls ++ BS lab ++ [BitVec.ofNat 8 ctx.length] ++ ctx
theorem labT_len (lab : List UInt8) (ctx : Bs) (n : Nat) : (labT lab ctx n).length = 3 + 6 + lab.length + 1 + ctx.length := by simp [labT, tls]; omega
end Sha
namespace Sx
open Sha

theorem BS_row (l : List UInt8) (i : Nat) (hi : i < l.length) : SC.w8 (l.getD i 0).toBitVec = .w8 (L (BS l) i) := congrArg SC.w8 (L_BS l i hi).symm
theorem tls_row (i : Nat) (hi : i < 6) : SC.w8 (List.getD [116, 108, 115, 49, 51, 32] i (0 : UInt8)).toBitVec = .w8 (L tls i) := by
  have : i = 0 ∨ i = 1 ∨ i = 2 ∨ i = 3 ∨ i = 4 ∨ i = 5 := by omega
  rcases this with rfl | rfl | rfl | rfl | rfl | rfl <;> rfl
theorem three {x y z x' y' z' : BitVec 8} (hx : x = x') (hy : y = y') (hz : z = z') (i : Nat) (hi : i < 3) : nthC [.w8 x, .w8 y, .w8 z] i = .w8 (L [x', y', z'] i) := by
  subst hx; subst hy; subst hz
  have : i = 0 ∨ i = 1 ∨ i = 2 := by omega
  rcases this with rfl | rfl | rfl <;> rfl
theorem ofNat_mod8 (n : Nat) : BitVec.ofNat 8 (n % 256) = BitVec.ofNat 8 n := by
  apply BitVec.eq_of_toNat_eq
  simp [BitVec.toNat_ofNat]
set_option maxRecDepth 20000 in
set_option maxHeartbeats 2000000 in
theorem fn_klabel (zc : Bool) (Nc oc cc : Nat) (s ctx : Bs) (lab : List UInt8) (many : Int) (dn : BitVec 32) (f g : Nat → BitVec 32) (hd : dn = 0#32 ∨ dn = 1#32 ∧ f = first ∧ g = steps)
    (hs : s.length = 32) (hNc : oc + ctx.length ≤ Nc) (hcc : ctx.length ≤ cc) (hzc : zc = true → ctx = []) :
    FnR Try.prog tds 25 1 [bts zc Nc oc ctx.length (L ctx), shaT dn 0 f g] [.c (.p 1 0 0), .agg [.row 32 fun i => .w8 (L s i)], .c (.str lab), .c (.sn zc 0 0 oc ctx.length cc), .c (.int .i64 many)] (fun _ => True)
      (fun x hs => ((249 < lab.length ∨ 255 < ctx.length) → x = .tup [.c (.slc none 0 0), .c (.int .i64 6)] ∧ hs = [bts zc Nc oc ctx.length (L ctx), shaT dn 0 f g]) ∧
        (lab.length ≤ 249 → ctx.length ≤ 255 → (many < 0 ∨ 8160 < many) → x = .tup [.c (.slc none 0 0), .c (.int .i64 2)] ∧ hs = [bts zc Nc oc ctx.length (L ctx), shaT dn 0 f g]) ∧
        (lab.length ≤ 249 → ctx.length ≤ 255 → 0 ≤ many → many ≤ 8160 → ∃ (z : Bool) (N : Nat) (dn' : BitVec 32) (f' g' : Nat → BitVec 32), (dn' = 0#32 ∨ dn' = 1#32 ∧ f' = first ∧ g' = steps) ∧ (z = true → many.toNat = 0) ∧ (0 < many → z = false) ∧ many.toNat ≤ N ∧
          x = .tup [.c (.sn z 2 0 0 many.toNat many.toNat), .c (.int .i64 0)] ∧ hs = [bts zc Nc oc ctx.length (L ctx), shaT dn' 0 f' g', bts z N 0 many.toNat (exF s (labT lab ctx many.toNat))])) := by
  refine fn_of_body tds_ok follows_ Try.func25 rfl (t := [.a (.c (.p 1 0 0)), .a (.agg [.row 32 fun i => .w8 (L s i)]), .a (.c (.str (lab))), .a (.c (.sn zc 0 0 oc ctx.length cc)), .a (.c (.int .i64 (many))), .any, .any, .any, .any, .any, .any, .any, .any, .any, .any, .any, .any, .any, .any, .any, .any, .any, .any, .any, .any, .any, .any, .any, .any, .any, .any, .any, .any, .any, .any, .any, .any, .any, .any, .any, .any, .any, .any, .any, .any, .any, .any, .any, .any, .any, .any, .any, .any, .any, .any, .any, .any, .any, .any, .any]) rfl (fun w r0 hr _ => ?_)
  obtain ⟨x0, x1, rfl⟩ := len2' hr
  (repeat first | refine And.intro (by omega) ?_ | refine And.intro (by decide) ?_ | (with_reducible refine frc_parts (by first | omega | decide) ?_) | (with_reducible refine frc_bytesL (by first | omega | decide) ?_) | refine And.intro rfl ?_)
  refine ⟨fun h => Bool.noConfusion h, fun _ => ?_⟩
  by_cases h0 : 249 < lab.length
  · have e0 : decide ((249 : Int) < (lab.length : Int)) = true := decide_eq_true (by omega)
    (repeat first | refine ⟨fun _ => ?_, fun h => absurd h (by rw [e0]; decide)⟩ | refine ⟨fun h => absurd h (by rw [e0]; decide), fun _ => ?_⟩ | refine ⟨fun _ => ?_, fun h => Bool.noConfusion h⟩ | refine ⟨fun h => Bool.noConfusion h, fun _ => ?_⟩)
    refine ⟨.tup [.c (.slc none 0 0), .c (.int .i64 6)], [bts zc Nc oc ctx.length (L ctx), shaT dn 0 f g], ⟨[0, 1], ⟨rfl, rfl, rfl⟩, ?_⟩, fun _ => ⟨rfl, rfl⟩, fun h => absurd h (by omega), fun h => absurd h (by omega)⟩
    (repeat first | exact trivial | refine ⟨rfl, ?_⟩ | refine ⟨fun _ _ => ⟨rfl, trivial⟩, ?_⟩ | refine ⟨fun _ _ => trivial, ?_⟩ | refine ⟨by omega, ?_⟩ | refine ⟨fun _ _ => eqC_winS, ?_⟩ | refine ⟨fun _ _ => eqC_winM, ?_⟩ | refine ⟨fun _ _ => eqC_winB, ?_⟩ | refine ⟨fun _ _ => eqC_selfB, ?_⟩ | refine ⟨fun _ _ => eqC_mpB, ?_⟩)
    refine eqC_bts ?_
    (repeat first | exact trivial | refine ⟨rfl, ?_⟩ | refine ⟨fun _ _ => ⟨rfl, trivial⟩, ?_⟩ | refine ⟨fun _ _ => trivial, ?_⟩ | refine ⟨by omega, ?_⟩ | refine ⟨fun _ _ => eqC_winS, ?_⟩ | refine ⟨fun _ _ => eqC_winM, ?_⟩ | refine ⟨fun _ _ => eqC_winB, ?_⟩ | refine ⟨fun _ _ => eqC_selfB, ?_⟩ | refine ⟨fun _ _ => eqC_mpB, ?_⟩)
  have e0 : decide ((249 : Int) < (lab.length : Int)) = false := decide_eq_false (by omega)
  by_cases h1 : 255 < ctx.length
  · have e1 : decide ((255 : Int) < (ctx.length : Int)) = true := decide_eq_true (by omega)
    (repeat first | refine ⟨fun _ => ?_, fun h => absurd h (by rw [e0]; decide)⟩ | refine ⟨fun h => absurd h (by rw [e0]; decide), fun _ => ?_⟩ | refine ⟨fun _ => ?_, fun h => absurd h (by rw [e1]; decide)⟩ | refine ⟨fun h => absurd h (by rw [e1]; decide), fun _ => ?_⟩ | refine ⟨fun _ => ?_, fun h => Bool.noConfusion h⟩ | refine ⟨fun h => Bool.noConfusion h, fun _ => ?_⟩)
    refine ⟨.tup [.c (.slc none 0 0), .c (.int .i64 6)], [bts zc Nc oc ctx.length (L ctx), shaT dn 0 f g], ⟨[0, 1], ⟨rfl, rfl, rfl⟩, ?_⟩, fun _ => ⟨rfl, rfl⟩, fun _ h => absurd h (by omega), fun _ h => absurd h (by omega)⟩
    (repeat first | exact trivial | refine ⟨rfl, ?_⟩ | refine ⟨fun _ _ => ⟨rfl, trivial⟩, ?_⟩ | refine ⟨fun _ _ => trivial, ?_⟩ | refine ⟨by omega, ?_⟩ | refine ⟨fun _ _ => eqC_winS, ?_⟩ | refine ⟨fun _ _ => eqC_winM, ?_⟩ | refine ⟨fun _ _ => eqC_winB, ?_⟩ | refine ⟨fun _ _ => eqC_selfB, ?_⟩ | refine ⟨fun _ _ => eqC_mpB, ?_⟩)
    refine eqC_bts ?_
    (repeat first | exact trivial | refine ⟨rfl, ?_⟩ | refine ⟨fun _ _ => ⟨rfl, trivial⟩, ?_⟩ | refine ⟨fun _ _ => trivial, ?_⟩ | refine ⟨by omega, ?_⟩ | refine ⟨fun _ _ => eqC_winS, ?_⟩ | refine ⟨fun _ _ => eqC_winM, ?_⟩ | refine ⟨fun _ _ => eqC_winB, ?_⟩ | refine ⟨fun _ _ => eqC_selfB, ?_⟩ | refine ⟨fun _ _ => eqC_mpB, ?_⟩)
  have e1 : decide ((255 : Int) < (ctx.length : Int)) = false := decide_eq_false (by omega)
  (repeat first | refine ⟨fun _ => ?_, fun h => absurd h (by rw [e0]; decide)⟩ | refine ⟨fun h => absurd h (by rw [e0]; decide), fun _ => ?_⟩ | refine ⟨fun _ => ?_, fun h => absurd h (by rw [e1]; decide)⟩ | refine ⟨fun h => absurd h (by rw [e1]; decide), fun _ => ?_⟩ | refine ⟨fun _ => ?_, fun h => Bool.noConfusion h⟩ | refine ⟨fun h => Bool.noConfusion h, fun _ => ?_⟩)
  by_cases h2 : many < 0
  · have e2 : decide (many < 0) = true := decide_eq_true h2
    (repeat first | refine ⟨fun _ => ?_, fun h => absurd h (by rw [e2]; decide)⟩ | refine ⟨fun h => absurd h (by rw [e2]; decide), fun _ => ?_⟩ | refine ⟨fun _ => ?_, fun h => Bool.noConfusion h⟩ | refine ⟨fun h => Bool.noConfusion h, fun _ => ?_⟩)
    refine ⟨.tup [.c (.slc none 0 0), .c (.int .i64 2)], [bts zc Nc oc ctx.length (L ctx), shaT dn 0 f g], ⟨[0, 1], ⟨rfl, rfl, rfl⟩, ?_⟩, fun h => absurd h (by omega), fun _ _ _ => ⟨rfl, rfl⟩, fun _ _ h => absurd h (by omega)⟩
    (repeat first | exact trivial | refine ⟨rfl, ?_⟩ | refine ⟨fun _ _ => ⟨rfl, trivial⟩, ?_⟩ | refine ⟨fun _ _ => trivial, ?_⟩ | refine ⟨by omega, ?_⟩ | refine ⟨fun _ _ => eqC_winS, ?_⟩ | refine ⟨fun _ _ => eqC_winM, ?_⟩ | refine ⟨fun _ _ => eqC_winB, ?_⟩ | refine ⟨fun _ _ => eqC_selfB, ?_⟩ | refine ⟨fun _ _ => eqC_mpB, ?_⟩)
    refine eqC_bts ?_
    (repeat first | exact trivial | refine ⟨rfl, ?_⟩ | refine ⟨fun _ _ => ⟨rfl, trivial⟩, ?_⟩ | refine ⟨fun _ _ => trivial, ?_⟩ | refine ⟨by omega, ?_⟩ | refine ⟨fun _ _ => eqC_winS, ?_⟩ | refine ⟨fun _ _ => eqC_winM, ?_⟩ | refine ⟨fun _ _ => eqC_winB, ?_⟩ | refine ⟨fun _ _ => eqC_selfB, ?_⟩ | refine ⟨fun _ _ => eqC_mpB, ?_⟩)
  have e2 : decide (many < 0) = false := decide_eq_false h2
  by_cases h3 : 65535 < many
  · have e3 : decide (65535 < many) = true := decide_eq_true h3
    (repeat first | refine ⟨fun _ => ?_, fun h => absurd h (by rw [e2]; decide)⟩ | refine ⟨fun h => absurd h (by rw [e2]; decide), fun _ => ?_⟩ | refine ⟨fun _ => ?_, fun h => absurd h (by rw [e3]; decide)⟩ | refine ⟨fun h => absurd h (by rw [e3]; decide), fun _ => ?_⟩ | refine ⟨fun _ => ?_, fun h => Bool.noConfusion h⟩ | refine ⟨fun h => Bool.noConfusion h, fun _ => ?_⟩)
    refine ⟨.tup [.c (.slc none 0 0), .c (.int .i64 2)], [bts zc Nc oc ctx.length (L ctx), shaT dn 0 f g], ⟨[0, 1], ⟨rfl, rfl, rfl⟩, ?_⟩, fun h => absurd h (by omega), fun _ _ _ => ⟨rfl, rfl⟩, fun _ _ _ h => absurd h (by omega)⟩
    (repeat first | exact trivial | refine ⟨rfl, ?_⟩ | refine ⟨fun _ _ => ⟨rfl, trivial⟩, ?_⟩ | refine ⟨fun _ _ => trivial, ?_⟩ | refine ⟨by omega, ?_⟩ | refine ⟨fun _ _ => eqC_winS, ?_⟩ | refine ⟨fun _ _ => eqC_winM, ?_⟩ | refine ⟨fun _ _ => eqC_winB, ?_⟩ | refine ⟨fun _ _ => eqC_selfB, ?_⟩ | refine ⟨fun _ _ => eqC_mpB, ?_⟩)
    refine eqC_bts ?_
    (repeat first | exact trivial | refine ⟨rfl, ?_⟩ | refine ⟨fun _ _ => ⟨rfl, trivial⟩, ?_⟩ | refine ⟨fun _ _ => trivial, ?_⟩ | refine ⟨by omega, ?_⟩ | refine ⟨fun _ _ => eqC_winS, ?_⟩ | refine ⟨fun _ _ => eqC_winM, ?_⟩ | refine ⟨fun _ _ => eqC_winB, ?_⟩ | refine ⟨fun _ _ => eqC_selfB, ?_⟩ | refine ⟨fun _ _ => eqC_mpB, ?_⟩)
  have e3 : decide (65535 < many) = false := decide_eq_false h3
  (repeat first | refine ⟨fun _ => ?_, fun h => absurd h (by rw [e2]; decide)⟩ | refine ⟨fun h => absurd h (by rw [e2]; decide), fun _ => ?_⟩ | refine ⟨fun _ => ?_, fun h => absurd h (by rw [e3]; decide)⟩ | refine ⟨fun h => absurd h (by rw [e3]; decide), fun _ => ?_⟩ | refine ⟨fun _ => ?_, fun h => Bool.noConfusion h⟩ | refine ⟨fun h => Bool.noConfusion h, fun _ => ?_⟩)
  obtain ⟨n, rfl⟩ : ∃ n : Nat, many = n := ⟨many.toNat, by omega⟩
  (repeat first | refine And.intro (by omega) ?_ | refine And.intro (by decide) ?_ | (with_reducible refine frc_parts (by first | omega | decide) ?_) | (with_reducible refine frc_bytesL (by first | omega | decide) ?_) | refine And.intro rfl ?_)
  refine fun c1 hc1 => ?_
  have r1 := app_row (l := [BitVec.ofNat 8 (n / 256), BitVec.ofNat 8 n, BitVec.ofNat 8 (6 + lab.length)]) (m := tls) (n := 3) (k := 6) rfl rfl (f := nthC [.w8 (BitVec.ofInt 8 ((n : Int) / 2 ^ 8)), .w8 (BitVec.ofInt 8 (n : Int)), .w8 (BitVec.ofInt 8 (6 + (lab.length : Int)))]) (fun i hi => three (by rw [show (n : Int) / 2 ^ 8 = ((n / 256 : Nat) : Int) by omega]; exact BitVec.ofInt_natCast 8 _) (BitVec.ofInt_natCast 8 n) (by rw [show 6 + (lab.length : Int) = ((6 + lab.length : Nat) : Int) by omega]; exact BitVec.ofInt_natCast 8 _) i hi) (g := fun q => .w8 (List.getD [116, 108, 115, 49, 51, 32] q (0 : UInt8)).toBitVec) (fun i hi => tls_row i hi)
  refine And.intro ⟨by omega, by simp only [scale]; omega, by show (3 + 6 + lab.length) * 1 ≤ 140737488355328; omega⟩ fun c2 hc2 => ?_
  have r2 := app_row (m := BS lab) (n := 3 + 6) (k := lab.length) rfl (BS_len lab) r1 (g := fun q => .w8 (lab.getD q 0).toBitVec) (fun i hi => BS_row lab i hi)
  (repeat first | refine And.intro (by omega) ?_ | refine And.intro (by decide) ?_ | (with_reducible refine frc_parts (by first | omega | decide) ?_) | (with_reducible refine frc_bytesL (by first | omega | decide) ?_) | refine And.intro rfl ?_)
  refine And.intro ⟨by omega, by simp only [scale]; omega, by show (3 + 6 + lab.length + 1) * 1 ≤ 140737488355328; omega⟩ fun c3 hc3 => ?_
  have r3 := app_row (m := [BitVec.ofNat 8 ctx.length]) (n := 3 + 6 + lab.length) (k := 1) (by simp [tls]; try omega) rfl r2 (one_row (x := BitVec.ofInt 8 (ctx.length : Int)) (BitVec.ofInt_natCast 8 ctx.length))
  refine sn_bts (N := Nc) (b := L ctx) ?_ hNc (fun h => by rw [hzc h]; rfl) (fun gx hg => ?_)
  · rfl
  refine And.intro ⟨by omega, by simp only [scale]; omega, by show (3 + 6 + lab.length + 1 + ctx.length) * 1 ≤ 140737488355328; omega⟩ fun c4 hc4 => ?_
  have r4 := app_row (n := 3 + 6 + lab.length + 1) (by simp [tls]; try omega) rfl r3 hg
  have hTl := labT_len lab ctx n
  obtain ⟨T, hT0⟩ : ∃ T, labT lab ctx n = T := ⟨_, rfl⟩
  rw [hT0] at hTl
  have hT : [BitVec.ofNat 8 (n / 256), BitVec.ofNat 8 n, BitVec.ofNat 8 (6 + lab.length)] ++ tls ++ BS lab ++ [BitVec.ofNat 8 ctx.length] ++ ctx = T := hT0
  rw [hT] at r4
  have hc4' : T.length ≤ c4 := by rw [hTl]; exact hc4
  (repeat first | refine And.intro (by omega) ?_ | refine And.intro (by decide) ?_ | (with_reducible refine frc_parts (by first | omega | decide) ?_) | (with_reducible refine frc_bytesL (by first | omega | decide) ?_) | refine And.intro rfl ?_)
  refine call_same (fn_kexpand false c4 0 c4 s T (n : Int) dn f g hd hs (by omega) (by omega) (fun h => Bool.noConfusion h)) [8, 1] rfl ⟨rfl, rfl, rfl, fun j hj => ⟨rfl, trivial⟩, rfl, rfl, hTl.symm, rfl, rfl, trivial⟩ ?_ (fun _ _ => trivial) ?_
  · refine ⟨rfl, fun j hj => eqC_win0 (fun i hi => r4 i (by omega)) j, ?_⟩
    (repeat first | exact trivial | refine ⟨rfl, ?_⟩ | refine ⟨fun _ _ => ⟨rfl, trivial⟩, ?_⟩ | refine ⟨fun _ _ => trivial, ?_⟩ | refine ⟨by omega, ?_⟩ | refine ⟨fun _ _ => eqC_winS, ?_⟩ | refine ⟨fun _ _ => eqC_winM, ?_⟩ | refine ⟨fun _ _ => eqC_winB, ?_⟩ | refine ⟨fun _ _ => eqC_selfB, ?_⟩ | refine ⟨fun _ _ => eqC_mpB, ?_⟩)
  rintro x hs' ⟨hbad, hgood⟩
  by_cases h4 : 8160 < (n : Int)
  · obtain ⟨rfl, rfl⟩ := hbad (.inr h4)
    (repeat first | refine And.intro (by omega) ?_ | refine And.intro (by decide) ?_ | (with_reducible refine frc_parts (by first | omega | decide) ?_) | (with_reducible refine frc_bytesL (by first | omega | decide) ?_) | refine And.intro rfl ?_)
    refine ⟨.tup [.c (.slc none 0 0), .c (.int .i64 2)], [bts zc Nc oc ctx.length (L ctx), shaT dn 0 f g], ⟨[0, 1], ⟨rfl, rfl, rfl⟩, ?_⟩, fun h => absurd h (by omega), fun _ _ _ => ⟨rfl, rfl⟩, fun _ _ _ h => absurd h (by omega)⟩
    (repeat first | exact trivial | refine ⟨rfl, ?_⟩ | refine ⟨fun _ _ => ⟨rfl, trivial⟩, ?_⟩ | refine ⟨fun _ _ => trivial, ?_⟩ | refine ⟨by omega, ?_⟩ | refine ⟨fun _ _ => eqC_winS, ?_⟩ | refine ⟨fun _ _ => eqC_winM, ?_⟩ | refine ⟨fun _ _ => eqC_winB, ?_⟩ | refine ⟨fun _ _ => eqC_selfB, ?_⟩ | refine ⟨fun _ _ => eqC_mpB, ?_⟩)
    refine eqC_bts ?_
    (repeat first | exact trivial | refine ⟨rfl, ?_⟩ | refine ⟨fun _ _ => ⟨rfl, trivial⟩, ?_⟩ | refine ⟨fun _ _ => trivial, ?_⟩ | refine ⟨by omega, ?_⟩ | refine ⟨fun _ _ => eqC_winS, ?_⟩ | refine ⟨fun _ _ => eqC_winM, ?_⟩ | refine ⟨fun _ _ => eqC_winB, ?_⟩ | refine ⟨fun _ _ => eqC_selfB, ?_⟩ | refine ⟨fun _ _ => eqC_mpB, ?_⟩)
  obtain ⟨z, N, dn', f', g', hd', hz, hz2, hN, rfl, rfl⟩ := hgood (by omega) (by omega)
  (repeat first | refine And.intro (by omega) ?_ | refine And.intro (by decide) ?_ | (with_reducible refine frc_parts (by first | omega | decide) ?_) | (with_reducible refine frc_bytesL (by first | omega | decide) ?_) | refine And.intro rfl ?_)
  refine ⟨.tup [.c (.sn z 2 0 0 n n), .c (.int .i64 0)], [bts zc Nc oc ctx.length (L ctx), shaT dn' 0 f' g', bts z N 0 n (exF s T)], ⟨[0, 1, 9], ⟨rfl, rfl, rfl⟩, ?_⟩, fun h => absurd h (by omega), fun _ _ h => absurd h (by omega), fun _ _ _ _ => ⟨z, N, dn', f', g', hd', hz, hz2, hN, rfl, by subst hT0; rfl⟩⟩
  (repeat first | exact trivial | refine ⟨rfl, ?_⟩ | refine ⟨fun _ _ => ⟨rfl, trivial⟩, ?_⟩ | refine ⟨fun _ _ => trivial, ?_⟩ | refine ⟨by omega, ?_⟩ | refine ⟨fun _ _ => eqC_winS, ?_⟩ | refine ⟨fun _ _ => eqC_winM, ?_⟩ | refine ⟨fun _ _ => eqC_winB, ?_⟩ | refine ⟨fun _ _ => eqC_selfB, ?_⟩ | refine ⟨fun _ _ => eqC_mpB, ?_⟩)
  refine eqC_bts ?_
  (repeat first | exact trivial | refine ⟨rfl, ?_⟩ | refine ⟨fun _ _ => ⟨rfl, trivial⟩, ?_⟩ | refine ⟨fun _ _ => trivial, ?_⟩ | refine ⟨by omega, ?_⟩ | refine ⟨fun _ _ => eqC_winS, ?_⟩ | refine ⟨fun _ _ => eqC_winM, ?_⟩ | refine ⟨fun _ _ => eqC_winB, ?_⟩ | refine ⟨fun _ _ => eqC_selfB, ?_⟩ | refine ⟨fun _ _ => eqC_mpB, ?_⟩)
  exact eqC_btsM trivial
set_option maxRecDepth 20000 in
set_option maxHeartbeats 2000000 in
theorem fn_rlabel (zs zc : Bool) (Ns Nc os oc cs cc : Nat) (s ctx : Bs) (lab : List UInt8) (n : Nat) (hNs : os + s.length ≤ Ns) (hcs : s.length ≤ cs) (hzs : zs = true → s = []) (hNc : oc + ctx.length ≤ Nc) (hcc : ctx.length ≤ cc) (hzc : zc = true → ctx = [])
    (hsl : s.length < 1000000) (hcl : ctx.length < 100000) (hll : lab.length < 100000) (hn : n ≤ 100000) :
    FnR Try.prog tds 26 2 [bts zs Ns os s.length (L s), bts zc Nc oc ctx.length (L ctx)] [.c (.sn zs 0 0 os s.length cs), .c (.str lab), .c (.sn zc 1 0 oc ctx.length cc), .c (.int .i64 (n : Int))] (fun _ => True)
      (fun x hs => (n = 0 → x = .a (.c (.slc none 0 0)) ∧ hs = [bts zs Ns os s.length (L s), bts zc Nc oc ctx.length (L ctx)]) ∧ (0 < n → ∃ N c : Nat, n ≤ N ∧ n ≤ c ∧ x = .a (.c (.sl 2 0 0 n c)) ∧ hs = [bts zs Ns os s.length (L s), bts zc Nc oc ctx.length (L ctx), [.row N (winF 0 n (exF s (labT lab ctx n)))]])) := by
  refine fn_of_body tds_ok follows_ Try.func26 rfl (t := [.a (.c (.sn zs 0 0 os s.length cs)), .a (.c (.str (lab))), .a (.c (.sn zc 1 0 oc ctx.length cc)), .a (.c (.int .i64 (↑n))), .any, .any, .any, .any, .any, .any, .any, .any, .any, .any, .any, .any, .any, .any, .any, .any, .any, .any, .any, .any, .any, .any, .any, .any, .any, .any, .any, .any, .any, .any, .any, .any, .any, .any]) rfl (fun w r0 hr _ => ?_)
  obtain ⟨x0, x1, rfl⟩ := len2' hr
  (repeat first | refine And.intro (by omega) ?_ | refine And.intro (by decide) ?_ | (with_reducible refine frc_parts (by first | omega | decide) ?_) | (with_reducible refine frc_bytesL (by first | omega | decide) ?_) | refine And.intro rfl ?_)
  refine fun c1 hc1 => ?_
  have r1 := app_row (l := [BitVec.ofNat 8 (n / 256), BitVec.ofNat 8 n, BitVec.ofNat 8 (6 + lab.length)]) (m := tls) (n := 3) (k := 6) rfl rfl (f := nthC [.w8 (BitVec.ofInt 8 ((n : Int) / 256)), .w8 (BitVec.ofInt 8 ((n : Int) % 256)), .w8 (BitVec.ofInt 8 (6 + (lab.length : Int)))]) (fun i hi => three (by rw [show (n : Int) / 256 = ((n / 256 : Nat) : Int) by omega]; exact BitVec.ofInt_natCast 8 _) (by rw [show (n : Int) % 256 = ((n % 256 : Nat) : Int) by omega]; exact (BitVec.ofInt_natCast 8 _).trans (ofNat_mod8 n)) (by rw [show 6 + (lab.length : Int) = ((6 + lab.length : Nat) : Int) by omega]; exact BitVec.ofInt_natCast 8 _) i hi) (g := fun q => .w8 (List.getD [116, 108, 115, 49, 51, 32] q (0 : UInt8)).toBitVec) (fun i hi => tls_row i hi)
  refine And.intro ⟨by omega, by simp only [scale]; omega, by show (3 + 6 + lab.length) * 1 ≤ 140737488355328; omega⟩ fun c2 hc2 => ?_
  have r2 := app_row (m := BS lab) (n := 3 + 6) (k := lab.length) rfl (BS_len lab) r1 (g := fun q => .w8 (lab.getD q 0).toBitVec) (fun i hi => BS_row lab i hi)
  (repeat first | refine And.intro (by omega) ?_ | refine And.intro (by decide) ?_ | (with_reducible refine frc_parts (by first | omega | decide) ?_) | (with_reducible refine frc_bytesL (by first | omega | decide) ?_) | refine And.intro rfl ?_)
  refine And.intro ⟨by omega, by simp only [scale]; omega, by show (3 + 6 + lab.length + 1) * 1 ≤ 140737488355328; omega⟩ fun c3 hc3 => ?_
  have r3 := app_row (m := [BitVec.ofNat 8 ctx.length]) (n := 3 + 6 + lab.length) (k := 1) (by simp [tls]; try omega) rfl r2 (one_row (x := BitVec.ofInt 8 (ctx.length : Int)) (BitVec.ofInt_natCast 8 ctx.length))
  refine sn_bts (N := Nc) (b := L ctx) ?_ hNc (fun h => by rw [hzc h]; rfl) (fun gx hg => ?_)
  · rfl
  refine And.intro ⟨by omega, by simp only [scale]; omega, by show (3 + 6 + lab.length + 1 + ctx.length) * 1 ≤ 140737488355328; omega⟩ fun c4 hc4 => ?_
  have r4 := app_row (n := 3 + 6 + lab.length + 1) (by simp [tls]; try omega) rfl r3 hg
  have hTl := labT_len lab ctx n
  obtain ⟨T, hT0⟩ : ∃ T, labT lab ctx n = T := ⟨_, rfl⟩
  rw [hT0] at hTl
  rw [hT0]
  have hT : [BitVec.ofNat 8 (n / 256), BitVec.ofNat 8 n, BitVec.ofNat 8 (6 + lab.length)] ++ tls ++ BS lab ++ [BitVec.ofNat 8 ctx.length] ++ ctx = T := hT0
  rw [hT] at r4
  have hc4' : T.length ≤ c4 := by rw [hTl]; exact hc4
  (repeat first | refine And.intro (by omega) ?_ | refine And.intro (by decide) ?_ | (with_reducible refine frc_parts (by first | omega | decide) ?_) | (with_reducible refine frc_bytesL (by first | omega | decide) ?_) | refine And.intro rfl ?_)
  refine call_same (fn_rexpand zs false Ns c4 os 0 cs c4 s T n hNs hcs hzs (by omega) (by omega) (fun h => Bool.noConfusion h) hsl (by omega) hn) [0, 7] rfl ⟨rfl, rfl, rfl, rfl, rfl, rfl, hTl.symm, rfl, rfl, trivial⟩ ?_ (fun _ _ => trivial) ?_
  · refine eqC_bts ?_
    exact ⟨rfl, fun j hj => eqC_win0 (fun i hi => r4 i (by omega)) j, trivial⟩
  rintro x hs' ⟨h0, h1⟩
  by_cases h4 : n = 0
  · obtain ⟨rfl, rfl⟩ := h0 h4
    refine ⟨.a (.c (.slc none 0 0)), [bts zs Ns os s.length (L s), bts zc Nc oc ctx.length (L ctx)], ⟨[0, 1], ⟨rfl, rfl, rfl⟩, ?_⟩, fun _ => ⟨rfl, rfl⟩, fun h => absurd h (by omega)⟩
    (repeat first | exact trivial | refine ⟨rfl, ?_⟩ | refine ⟨fun _ _ => ⟨rfl, trivial⟩, ?_⟩ | refine ⟨fun _ _ => trivial, ?_⟩ | refine ⟨by omega, ?_⟩ | refine ⟨fun _ _ => eqC_winS, ?_⟩ | refine ⟨fun _ _ => eqC_winM, ?_⟩ | refine ⟨fun _ _ => eqC_winB, ?_⟩ | refine ⟨fun _ _ => eqC_selfB, ?_⟩ | refine ⟨fun _ _ => eqC_mpB, ?_⟩)
    refine eqC_bts (eqC_bts ?_)
    (repeat first | exact trivial | refine ⟨rfl, ?_⟩ | refine ⟨fun _ _ => ⟨rfl, trivial⟩, ?_⟩ | refine ⟨fun _ _ => trivial, ?_⟩ | refine ⟨by omega, ?_⟩ | refine ⟨fun _ _ => eqC_winS, ?_⟩ | refine ⟨fun _ _ => eqC_winM, ?_⟩ | refine ⟨fun _ _ => eqC_winB, ?_⟩ | refine ⟨fun _ _ => eqC_selfB, ?_⟩ | refine ⟨fun _ _ => eqC_mpB, ?_⟩)
  obtain ⟨N, c, hN, hc, rfl, rfl⟩ := h1 (by omega)
  refine ⟨.a (.c (.sl 2 0 0 n c)), [bts zs Ns os s.length (L s), bts zc Nc oc ctx.length (L ctx), [.row N (winF 0 n (exF s T))]], ⟨[0, 1, 8], ⟨rfl, rfl, rfl⟩, ?_⟩, fun h => absurd h h4, fun _ => ⟨N, c, hN, hc, rfl, rfl⟩⟩
  (repeat first | exact trivial | refine ⟨rfl, ?_⟩ | refine ⟨fun _ _ => ⟨rfl, trivial⟩, ?_⟩ | refine ⟨fun _ _ => trivial, ?_⟩ | refine ⟨by omega, ?_⟩ | refine ⟨fun _ _ => eqC_winS, ?_⟩ | refine ⟨fun _ _ => eqC_winM, ?_⟩ | refine ⟨fun _ _ => eqC_winB, ?_⟩ | refine ⟨fun _ _ => eqC_selfB, ?_⟩ | refine ⟨fun _ _ => eqC_mpB, ?_⟩)
  refine eqC_bts (eqC_bts ?_)
  (repeat first | exact trivial | refine ⟨rfl, ?_⟩ | refine ⟨fun _ _ => ⟨rfl, trivial⟩, ?_⟩ | refine ⟨fun _ _ => trivial, ?_⟩ | refine ⟨by omega, ?_⟩ | refine ⟨fun _ _ => eqC_winS, ?_⟩ | refine ⟨fun _ _ => eqC_winM, ?_⟩ | refine ⟨fun _ _ => eqC_winB, ?_⟩ | refine ⟨fun _ _ => eqC_selfB, ?_⟩ | refine ⟨fun _ _ => eqC_mpB, ?_⟩)
end Sx
end Go.Proofs.Ytndlhhhebijknaa
end

section
/-
  Secrets out of secrets: Extract, Derive; the law's fixed fact. No condition.
-/
namespace Go.Proofs.Ytndlhhhebijknaa
set_option linter.unusedVariables false
namespace Sx
open Sha

theorem sn_btsM {h : List (List Seg)} {g : Nat → Nat} {z : Bool} {j N o n : Nat} {b : Nat → BitVec 8} {k : (Nat → SC) → Prop} (hj : getH h j = mpL g (bts z N o n b)) (hN : o + n ≤ N) (hz : z = true → n = 0)
    (hk : ∀ g : Nat → SC, (∀ i, i < n → g i = .w8 (b i)) → k g) : ∃ f : Nat → SC, ((z = true → n = 0) ∧ (z = false → SnAt h j 0 o n 1 f)) ∧ k f := by
  refine ⟨fun i => .w8 (b i), ⟨hz, ?_⟩, hk _ fun _ _ => rfl⟩
  rintro rfl
  refine ⟨N, fun j => SC.mp g (winF o n b j), [], by rw [hj]; rfl, hN, fun q hq => ?_⟩
  show SC.w8 (b q) = SC.mp g (winF o n b (q + o))
  rw [Nat.add_comm, winF_at _ _ _ (show q < n from hq)]
  rfl
theorem eqC_winBM {q : List Nat} {g : Nat → Nat} {n m : Nat} {b : Nat → BitVec 8} {j : Nat} (h : m ≤ n) : eqC q (SC.mp g (bytesF n b j)) (winF 0 m b j) True :=
  eqC_win0 (f := fun j => SC.mp g (bytesF n b j)) (fun i hi => by rw [bytesF_lt (by omega)]; rfl) j
theorem fn_knew : Fn Try.prog tds 22 [] [] (fun _ => True) (fun x hs => x = .a (.c (.p 0 0 0)) ∧ hs = [shaT 0 0 (fun _ => 0#32) (fun _ => 0#32)]) := by
  refine fn_of_body tds_ok follows_ Try.func22 rfl (t := anys 2) rfl (fun w r0 hr _ => ?_)
  obtain rfl : r0 = [] := List.eq_nil_of_length_eq_zero hr
  refine ⟨.a (.c (.p 0 0 0)), [shaT 0 0 (fun _ => 0#32) (fun _ => 0#32)], ⟨[0], ⟨rfl, rfl, rfl⟩, ?_⟩, rfl, rfl⟩
  (repeat first | exact trivial | refine ⟨rfl, ?_⟩ | refine ⟨fun _ _ => ⟨rfl, trivial⟩, ?_⟩ | refine ⟨by omega, ?_⟩)
set_option maxRecDepth 20000 in
theorem fn_extract (zs zk : Bool) (Ns Nk os ok cs ck : Nat) (salt known : Bs) (dn : BitVec 32) (f g : Nat → BitVec 32) (hd : dn = 0#32 ∨ dn = 1#32 ∧ f = first ∧ g = steps)
    (hNs : os + salt.length ≤ Ns) (hcs : salt.length ≤ cs) (hzs : zs = true → salt = []) (hNk : ok + known.length ≤ Nk) (hck : known.length ≤ ck) (hzk : zk = true → known = []) :
    FnR Try.prog tds 27 2 [bts zs Ns os salt.length (L salt), bts zk Nk ok known.length (L known), shaT dn 0 f g] [.c (.p 2 0 0), .c (.sn zs 0 0 os salt.length cs), .c (.sn zk 1 0 ok known.length ck)] (fun _ => True)
      (fun x hs => x = .a (.agg [.row 32 fun i => .w8 (L (markL salt known) i)]) ∧ hs = [bts zs Ns os salt.length (L salt), bts zk Nk ok known.length (L known), shaT 1 0 first steps]) := by
  refine fn_of_body tds_ok follows_ Try.func27 rfl (t := [.a (.c (.p 2 0 0)), .a (.c (.sn zs 0 0 os salt.length cs)), .a (.c (.sn zk 1 0 ok known.length ck)), .any, .any, .any, .any, .any, .any, .any, .any, .any, .any, .any, .any, .any, .any]) rfl (fun w r0 hr _ => ?_)
  obtain ⟨x0, x1, x2, rfl⟩ := len3' hr
  refine ⟨fun h => Bool.noConfusion h, fun _ => ?_⟩
  (repeat first | refine And.intro (by omega) ?_ | refine And.intro (by decide) ?_ | (with_reducible refine frc_parts (by first | omega | decide) ?_) | (with_reducible refine frc_bytesL (by first | omega | decide) ?_) | refine And.intro rfl ?_)
  refine call_same (fn_smark zs zk true true Ns Nk 0 0 os ok 0 0 cs ck 0 0 salt known [] [] 1 1 1 dn f g hd hNs hcs hzs hNk hck hzk (by decide) (by decide) (fun _ => rfl) (by decide) (by decide) (fun _ => rfl) (by decide) (by decide)) [0, 1, 4, 4, 4, 2] rfl (by (repeat first | exact trivial | refine ⟨rfl, ?_⟩ | refine ⟨fun _ _ => ⟨rfl, trivial⟩, ?_⟩ | refine ⟨fun _ _ => trivial, ?_⟩ | refine ⟨by omega, ?_⟩ | refine ⟨fun _ _ => eqC_winS, ?_⟩ | refine ⟨fun _ _ => eqC_winM, ?_⟩ | refine ⟨fun _ _ => eqC_winB, ?_⟩ | refine ⟨fun _ _ => eqC_selfB, ?_⟩ | refine ⟨fun _ _ => eqC_mpB, ?_⟩)) ?_ (fun _ _ => trivial) ?_
  · refine eqC_bts (eqC_bts ?_)
    (repeat first | exact trivial | refine ⟨rfl, ?_⟩ | refine ⟨fun _ _ => ⟨rfl, trivial⟩, ?_⟩ | refine ⟨fun _ _ => trivial, ?_⟩ | refine ⟨by omega, ?_⟩ | refine ⟨fun _ _ => eqC_winS, ?_⟩ | refine ⟨fun _ _ => eqC_winM, ?_⟩ | refine ⟨fun _ _ => eqC_winB, ?_⟩ | refine ⟨fun _ _ => eqC_selfB, ?_⟩ | refine ⟨fun _ _ => eqC_mpB, ?_⟩)
    refine ⟨fun j hj => eqC_parts (fun i hi => ?_) j, ?_⟩
    · obtain rfl : i = 0 := by omega
      exact ⟨rfl, rfl, rfl, rfl, trivial⟩
    · (repeat first | exact trivial | refine ⟨rfl, ?_⟩ | refine ⟨fun _ _ => ⟨rfl, trivial⟩, ?_⟩ | refine ⟨fun _ _ => trivial, ?_⟩ | refine ⟨by omega, ?_⟩ | refine ⟨fun _ _ => eqC_winS, ?_⟩ | refine ⟨fun _ _ => eqC_winM, ?_⟩ | refine ⟨fun _ _ => eqC_winB, ?_⟩ | refine ⟨fun _ _ => eqC_selfB, ?_⟩ | refine ⟨fun _ _ => eqC_mpB, ?_⟩)
  rintro x hs ⟨rfl, rfl⟩
  rw [cat1]
  (repeat first | refine And.intro (by omega) ?_ | refine And.intro (by decide) ?_ | (with_reducible refine frc_parts (by first | omega | decide) ?_) | (with_reducible refine frc_bytesL (by first | omega | decide) ?_) | refine And.intro rfl ?_)
  refine ⟨.a (.agg [.row 32 fun i => .w8 (L (markL salt known) i)]), [bts zs Ns os salt.length (L salt), bts zk Nk ok known.length (L known), shaT 1 0 first steps], ⟨[0, 1, 2], ⟨rfl, rfl, rfl⟩, ?_⟩, rfl, rfl⟩
  (repeat first | exact trivial | refine ⟨rfl, ?_⟩ | refine ⟨fun _ _ => ⟨rfl, trivial⟩, ?_⟩ | refine ⟨fun _ _ => trivial, ?_⟩ | refine ⟨by omega, ?_⟩ | refine ⟨fun _ _ => eqC_winS, ?_⟩ | refine ⟨fun _ _ => eqC_winM, ?_⟩ | refine ⟨fun _ _ => eqC_winB, ?_⟩ | refine ⟨fun _ _ => eqC_selfB, ?_⟩ | refine ⟨fun _ _ => eqC_mpB, ?_⟩)
  refine eqC_bts (eqC_bts ?_)
  (repeat first | exact trivial | refine ⟨rfl, ?_⟩ | refine ⟨fun _ _ => ⟨rfl, trivial⟩, ?_⟩ | refine ⟨fun _ _ => trivial, ?_⟩ | refine ⟨by omega, ?_⟩ | refine ⟨fun _ _ => eqC_winS, ?_⟩ | refine ⟨fun _ _ => eqC_winM, ?_⟩ | refine ⟨fun _ _ => eqC_winB, ?_⟩ | refine ⟨fun _ _ => eqC_selfB, ?_⟩ | refine ⟨fun _ _ => eqC_mpB, ?_⟩)
def saltA : Bs := [0#8, 1#8, 2#8, 3#8, 4#8, 5#8, 6#8, 7#8, 8#8, 9#8, 10#8, 11#8, 12#8]
def knownA : Bs := [11#8, 11#8, 11#8, 11#8, 11#8, 11#8, 11#8, 11#8, 11#8, 11#8, 11#8, 11#8, 11#8, 11#8, 11#8, 11#8, 11#8, 11#8, 11#8, 11#8, 11#8, 11#8]
end Sx
end Go.Proofs.Ytndlhhhebijknaa
end

section
/-
  The document's columns, mixed; a key's words. No condition.
-/
namespace Go.Proofs.Ytndlhhhebijknaa
set_option linter.unusedVariables false
namespace Sx
open Aes

theorem fn_rmixed (b : Nat → BitVec 8) : Fn Try.prog tds 77 [[.row 16 fun j => .w8 (b j)]] [.c (.sl 0 0 0 16 16)] (fun _ => True) (fun x hs => x = .a (.c (.sl 1 0 0 16 16)) ∧ hs = [[.row 16 fun j => .w8 (b j)], [.row 16 fun j => .w8 (rMixAt b j)]]) := by
  refine fn_of_body tds_ok follows_ Try.func77 rfl (t := [.a (.c (.sl 0 0 0 16 16)), .any, .any, .any, .any, .any, .any, .any, .any, .any, .any, .any, .any, .any, .any, .any, .any, .any, .any, .any, .any, .any, .any, .any, .any, .any, .any, .any, .any, .any, .any, .any, .any, .any, .any, .any, .any, .any, .any, .any, .any, .any, .any, .any, .any, .any, .any, .any, .any, .any, .any, .any, .any, .any, .any, .any]) rfl (fun w r0 hr _ => ?_)
  obtain ⟨x0, rfl⟩ := List.length_eq_one_iff.1 hr
  refine ⟨by decide, .inl ⟨Nat, fun m => ⟨[.a (.c (.sl 0 0 0 16 16)), .any, .any, .a (.c (.sl 1 0 0 16 16)), .a (.c (.int .i64 ((4 * ↑m)))), .any, .any, .any, .any, .any, .any, .any, .any, .any, .any, .any, .any, .any, .any, .any, .any, .any, .any, .any, .any, .any, .any, .any, .any, .any, .any, .any, .any, .any, .any, .any, .any, .any, .any, .any, .any, .any, .any, .any, .any, .any, .any, .any, .any, .any, .any, .any, .any, .any, .any, .any], [[.row 16 fun j => .w8 (b j)], [.row 16 fun j => .w8 (if j < 4 * m then rMixAt b j else 0#8)]]⟩, fun m => m ≤ 4, fun m => 4 - m, ⟨0, [0, 1], ⟨⟨rfl, rfl, rfl⟩, ?_⟩, by omega⟩, fun m hm => ⟨fun h => ?_, fun h => ?_⟩⟩⟩
  · exact ⟨rfl, rfl, rfl, rfl, rfl, rfl, rfl, rfl, fun j hj => ⟨rfl, trivial⟩, rfl, fun j hj => ⟨by simp, trivial⟩, trivial⟩
  · have hlt : 4 * (m : Int) < 16 := of_decide_eq_true h
    refine .inl ⟨Nat, fun r => ⟨[.a (.c (.sl 0 0 0 16 16)), .any, .any, .a (.c (.sl 1 0 0 16 16)), .a (.c (.int .i64 ((4 * ↑m)))), .a (.c (.int .i64 (↑r))), .any, .any, .any, .any, .any, .any, .any, .any, .any, .any, .any, .any, .any, .any, .any, .any, .any, .any, .any, .any, .any, .any, .any, .any, .any, .any, .any, .any, .any, .any, .any, .any, .any, .any, .any, .any, .any, .any, .any, .any, .any, .any, .any, .any, .any, .any, .any, .any, .any, .any], [[.row 16 fun j => .w8 (b j)], [.row 16 fun j => .w8 (if j < 4 * m + r then rMixAt b j else 0#8)]]⟩, fun r => r ≤ 4, fun r => 4 - r, ⟨0, [0, 1], ⟨⟨rfl, rfl, rfl⟩, ?_⟩, by omega⟩, fun r hr => ⟨fun h => ?_, fun h => ?_⟩⟩
    · exact ⟨rfl, rfl, rfl, rfl, rfl, rfl, rfl, rfl, rfl, fun j hj => ⟨rfl, trivial⟩, rfl, fun j hj => ⟨rfl, trivial⟩, trivial⟩
    · have hlr : (r : Int) < 4 := of_decide_eq_true h
      refine ⟨none, [], [(0, true), (1, true), (2, true), (3, true), (4, true), (5, true), (6, true), (7, true), (8, true), (9, true), (11, true), (12, true), (13, true), (14, true), (15, true), (16, true), (17, true), (18, true), (21, true), (22, true), (23, true), (24, true), (25, true), (26, true), (27, true), (28, true), (30, true), (31, true), (32, true), (33, true), (34, true), (35, true), (36, true), (37, true), (10, false), (19, false), (20, true), (29, true), (38, true), (39, true)], [40], by kernel_rfl, ?_⟩
      repeat refine ⟨by omega, ?_⟩
      refine ⟨by kernel_rfl, call_same (fn_rtimes _ _) [] rfl ⟨rfl, rfl, trivial⟩ trivial (fun _ _ => trivial) ?_⟩
      rintro x hs ⟨rfl, rfl⟩
      refine ⟨by kernel_rfl, call_same (fn_rtimes _ _) [] rfl ⟨rfl, rfl, trivial⟩ trivial (fun _ _ => trivial) ?_⟩
      rintro x hs ⟨rfl, rfl⟩
      repeat refine ⟨by omega, ?_⟩
      refine ⟨rfl, ⟨by omega, by omega⟩, r + 1, [0, 1], ⟨⟨rfl, rfl, rfl⟩, ?_⟩, by dsimp only; omega, by dsimp only; omega⟩
      refine ⟨rfl, rfl, rfl, rfl, rfl, rfl, rfl, rfl, rfl, fun j hj => ⟨rfl, trivial⟩, rfl, fun j hj => eqC_w8 ?_, trivial⟩
      have e0 : (4 * (m : Int) + r).toNat + 0 = 4 * m + r := by omega
      have e1 : (4 * (m : Int) + ((r : Int) + 1) % 4).toNat + 0 = (4 * m + r) / 4 * 4 + (4 * m + r + 1) % 4 := by omega
      have e2 : (4 * (m : Int) + ((r : Int) + 2) % 4).toNat + 0 = (4 * m + r) / 4 * 4 + (4 * m + r + 2) % 4 := by omega
      have e3 : (4 * (m : Int) + ((r : Int) + 3) % 4).toNat + 0 = (4 * m + r) / 4 * 4 + (4 * m + r + 3) % 4 := by omega
      rw [e0, e1, e2, e3]
      refine (upd_w8 (g := fun j => .w8 (if j < 4 * m + (r + 1) then rMixAt b j else 0#8)) ?_ ?_ j).trans rfl
      · simp only [if_pos (show 4 * m + r < 4 * m + (r + 1) by omega)]
        rfl
      · intro j hjk
        have : j < 4 * m + (r + 1) ↔ j < 4 * m + r := by omega
        simp only [this]
    · obtain rfl : r = 4 := by have : ¬ (r : Int) < 4 := of_decide_eq_false h; have hr : r ≤ 4 := hr; omega
      refine ⟨⟨by omega, by omega⟩, m + 1, [0, 1], ⟨⟨rfl, rfl, rfl⟩, rfl, rfl, rfl, rfl, rfl, rfl, by omega, rfl, fun j hj => ⟨rfl, trivial⟩, rfl, fun j hj => eqC_w8 ?_, trivial⟩, by dsimp only; omega, by dsimp only; omega⟩
      rw [show 4 * (m + 1) = 4 * m + 4 by omega]
  · obtain rfl : m = 4 := by have : ¬ 4 * (m : Int) < 16 := of_decide_eq_false h; have hm : m ≤ 4 := hm; omega
    exact ⟨.a (.c (.sl 1 0 0 16 16)), [[.row 16 fun j => .w8 (b j)], [.row 16 fun j => .w8 (rMixAt b j)]], ⟨[0, 1], ⟨rfl, rfl, rfl⟩, rfl, rfl, rfl, rfl, fun j hj => ⟨rfl, trivial⟩, rfl, fun j hj => eqC_w8 (by simp; omega), trivial⟩, rfl, rfl⟩
theorem len2 {α : Type} : ∀ {l : List α}, l.length = 2 → ∃ a b, l = [a, b]
  | [a, b], _ => ⟨a, b, rfl⟩
theorem len3 {α : Type} : ∀ {l : List α}, l.length = 3 → ∃ a b c, l = [a, b, c]
  | [a, b, c], _ => ⟨a, b, c, rfl⟩
theorem idx8 (x : BitVec 8) : 0 ≤ (x.toNat : Int) ∧ (x.toNat : Int) < ((256 : Nat) : Int) := by have := x.isLt; omega
theorem lt8 {c : Nat} (h : 256 ≤ c) (x : BitVec 8) : ((x.toNat : Int)).toNat + 0 < c := by have := x.isLt; omega
theorem frc_bytes {n : Nat} {b : Nat → BitVec 8} {j : Nat} {k : SC → Prop} (h : j < n) (hk : k (.w8 (b j))) : frcSC (bytesF n b j) k := by
  rw [bytesF_lt h]; exact hk
theorem app_bytes {n m : Nat} {b : Nat → BitVec 8} {W : Nat → BitVec 8} {g : Nat → SC} (h1 : ∀ i, i < n → b i = W i) (h2 : ∀ i, i < m → g i = .w8 (W (n + i))) (i : Nat) (hi : i < n + m) : appF (bytesF n b) 0 (scale n (0 + 1)) (scale m (0 + 1)) g i = .w8 (W i) := by
  have e1 : scale n (0 + 1) = n := rfl
  have e2 : scale m (0 + 1) = m := rfl
  unfold appF
  rw [e1, e2]
  by_cases h : i < n
  · rw [if_pos h, Nat.add_zero, bytesF_lt h, h1 i h]
  · rw [if_neg h, if_pos hi, h2 (i - n) (by omega), show n + (i - n) = i by omega]
set_option maxHeartbeats 2000000 in
theorem fn_rkeysC (B key : Nat → BitVec 8) (cb ck db dk : Nat) (hb : 256 ≤ cb) (hk : 16 ≤ ck) :
    Fn Try.prog tds 76 [[.row cb (bytesF 256 B)], [.row ck (bytesF 16 key)]] [.c (.sl 0 0 0 256 db), .c (.sl 1 0 0 16 dk)] (fun _ => True)
      (fun x hs => ∃ c, x = .a (.c (.sl 2 0 0 176 c)) ∧ hs = [[.row cb (bytesF 256 B)], [.row ck (bytesF 16 key)], [.row c (bytesF 176 (rKeys B key))]] ∧ 176 ≤ c) := by
  refine fn_of_body tds_ok follows_ Try.func76 rfl (t := [.a (.c (.sl 0 0 0 256 db)), .a (.c (.sl 1 0 0 16 dk)), .any, .any, .any, .any, .any, .any, .any, .any, .any, .any, .any, .any, .any, .any, .any, .any, .any, .any, .any, .any, .any, .any, .any, .any, .any, .any, .any, .any, .any, .any, .any, .any, .any, .any, .any, .any, .any, .any, .any, .any, .any, .any, .any, .any, .any, .any, .any, .any, .any, .any, .any, .any, .any, .any, .any, .any, .any, .any, .any, .any, .any, .any, .any, .any, .any, .any, .any, .any, .any, .any, .any, .any, .any, .any, .any, .any, .any, .any, .any, .any, .any, .any, .any, .any, .any, .any, .any, .any, .any, .any, .any, .any, .any]) rfl (fun w r0 hr _ => ?_)
  obtain ⟨x0, x1, rfl⟩ := len2 hr
  refine ⟨by simp [scale]; omega, ⟨by omega, by simp [scale], by decide⟩, fun c0 hc0 => ?_⟩
  refine .inl ⟨Nat × Nat, fun (k, c) => ⟨[.a (.c (.sl 0 0 0 256 db)), .any, .any, .any, .any, .a (.c (.sl 2 0 0 (4 * (k + 4)) c)), .a (.c (.w8 ((rKeyS B key k).2))), .a (.c (.int .i64 (↑(k + 4)))), .any, .any, .any, .any, .any, .any, .any, .any, .any, .any, .any, .any, .any, .any, .any, .any, .any, .any, .any, .any, .any, .any, .any, .any, .any, .any, .any, .any, .any, .any, .any, .any, .any, .any, .any, .any, .any, .any, .any, .any, .any, .any, .any, .any, .any, .any, .any, .any, .any, .any, .any, .any, .any, .any, .any, .any, .any, .any, .any, .any, .any, .any, .any, .any, .any, .any, .any, .any, .any, .any, .any, .any, .any, .any, .any, .any, .any, .any, .any, .any, .any, .any, .any, .any, .any, .any, .any], [[.row cb (bytesF 256 B)], [.row ck (bytesF 16 key)], [.row c (bytesF (4 * (k + 4)) (rKeyS B key k).1)]]⟩, fun (k, c) => k ≤ 40 ∧ 4 * (k + 4) ≤ c, fun (k, _) => 40 - k, ⟨(0, c0), [0, 1, 3], ⟨⟨rfl, rfl, rfl⟩, ?_⟩, by omega, by omega⟩, fun x => ?_⟩
  · refine ⟨rfl, rfl, rfl, rfl, rfl, rfl, rfl, rfl, rfl, fun j hj => eqC_bytes (fun i hi => bytesF_lt hi) j, rfl, fun j hj => eqC_bytes (fun i hi => bytesF_lt hi) j, rfl, fun j hj => eqC_bytes (fun i hi => ?_) j, trivial⟩
    unfold appF
    rw [if_neg (by simp [scale]), if_pos (by simpa [scale] using hi)]
    exact bytesF_lt hi
  · obtain ⟨k, c⟩ := x
    rintro ⟨hk, hc⟩
    refine ⟨fun h => ?_, fun h => ?_⟩
    · have hlt : ((k + 4 : Nat) : Int) < 44 := of_decide_eq_true h
      have e0 : (4 * ((k + 4 : Nat) : Int) - 4).toNat + 0 = 4 * (k + 4) - 4 + 0 := by omega
      have e1 : (4 * ((k + 4 : Nat) : Int) - 3).toNat + 0 = 4 * (k + 4) - 4 + 1 := by omega
      have e2 : (4 * ((k + 4 : Nat) : Int) - 2).toNat + 0 = 4 * (k + 4) - 4 + 2 := by omega
      have e3 : (4 * ((k + 4 : Nat) : Int) - 1).toNat + 0 = 4 * (k + 4) - 4 + 3 := by omega
      refine ⟨none, [], [(0, true), (1, true), (2, true), (3, true), (4, true), (5, true), (6, true), (7, true), (8, true), (9, true), (10, true), (11, true), (12, true), (13, true), (14, true), (15, true), (16, true), (17, true), (18, true), (19, true), (20, true), (21, true), (22, true), (23, true), (24, false), (25, true)], [], by kernel_rfl, ?_⟩
      repeat first
        | refine frc_bytes (by omega) ?_
        | refine ⟨by omega, ?_⟩
      refine ⟨fun h2 => ?_, fun h2 => ?_⟩
      · have h3 : (k + 4) % 4 = 0 := by have : ((k + 4 : Nat) : Int) % 4 = 0 := of_decide_eq_true h2; omega
        refine ⟨none, [], [(0, true), (1, true), (2, true), (3, true), (4, true), (5, true), (6, true), (7, true), (8, true), (9, true), (10, true), (11, true), (12, true), (13, true), (14, true), (15, true), (16, true), (17, true), (18, true), (19, true), (20, true), (21, true), (22, true), (23, true), (24, true), (25, true), (26, false), (27, true)], [], by kernel_rfl, ?_⟩
        repeat first
          | refine frc_bytes (lt8 (Nat.le_refl _) _) ?_
          | refine ⟨idx8 _, ?_⟩
          | refine ⟨lt8 hb _, ?_⟩
          | refine ⟨by omega, ?_⟩
        refine ⟨by kernel_rfl, call_same (fn_rtimes _ _) [] rfl ⟨rfl, rfl, trivial⟩ trivial (fun _ _ => trivial) ?_⟩
        rintro x hs ⟨rfl, rfl⟩
        refine .inl ⟨Nat × Nat, fun (j, c) => ⟨[.a (.c (.sl 0 0 0 256 db)), .any, .any, .any, .any, .a (.c (.sl 2 0 0 (4 * (k + 4) + j) c)), .a (.c (.w8 ((rKeyS B key (k + 1)).2))), .a (.c (.int .i64 (↑(k + 4)))), .a (.c (.sl 3 0 0 4 4)), .a (.c (.int .i64 (↑j))), .any, .any, .any, .any, .any, .any, .any, .any, .any, .any, .any, .any, .any, .any, .any, .any, .any, .any, .any, .any, .any, .any, .any, .any, .any, .any, .any, .any, .any, .any, .any, .any, .any, .any, .any, .any, .any, .any, .any, .any, .any, .any, .any, .any, .any, .any, .any, .any, .any, .any, .any, .any, .any, .any, .any, .any, .any, .any, .any, .any, .any, .any, .any, .any, .any, .any, .any, .any, .any, .any, .any, .any, .any, .any, .any, .any, .any, .any, .any, .any, .any, .any, .any, .any, .any], [[.row cb (bytesF 256 B)], [.row ck (bytesF 16 key)], [.row c (bytesF (4 * (k + 4) + j) (rKeyS B key (k + 1)).1)], [.row 4 fun j => .w8 (rWord B (rKeyS B key k).1 (rKeyS B key k).2 (k + 4) j)]]⟩, fun (j, c) => j ≤ 4 ∧ 4 * (k + 4) + j ≤ c, fun (j, _) => 4 - j, ⟨(0, c), [0, 1, 2, 4], ⟨⟨rfl, rfl, rfl⟩, ?_⟩, by omega, by omega⟩, fun x => ?_⟩
        · refine ⟨rfl, rfl, rfl, rfl, rfl, rfl, (if_pos h3).symm, rfl, rfl, rfl, rfl, rfl, rfl, fun j hj => eqC_bytes (fun i hi => bytesF_lt hi) j, rfl, fun j hj => eqC_bytes (fun i hi => bytesF_lt hi) j, rfl, fun j hj => eqC_bytes (fun i hi => ?_) j, rfl, fun j hj => ?_, trivial⟩
          · have hi' : i < 4 * (k + 4) := hi
            rw [bytesF_lt hi']
            simp only [rKeyS]
            rw [if_pos hi']
          · have : j = 0 ∨ j = 1 ∨ j = 2 ∨ j = 3 := by omega
            rw [e0, e1, e2, e3]
            rcases this with rfl | rfl | rfl | rfl <;> exact eqC_w8 (congrArg SC.w8 (by unfold rWord; rw [if_pos h3]; rfl))
        · obtain ⟨j, c⟩ := x
          rintro ⟨hj, hc⟩
          refine ⟨fun h => ?_, fun h => ?_⟩
          · have hlt : (j : Int) < 4 := of_decide_eq_true h
            have e4 : (4 * ((k + 4 : Nat) : Int) - 16 + j).toNat + 0 = 4 * (k + 4) + j - 16 := by omega
            have e5 : (j : Int).toNat + 0 = j := by omega
            refine ⟨none, [], [(0, true), (1, true), (2, true), (3, true), (4, true), (5, true), (6, true), (7, true), (8, true), (9, true), (10, true), (11, true), (12, true), (13, true), (14, false)], [15, 16], by kernel_rfl, ?_⟩
            repeat first
              | refine frc_bytes (by omega) ?_
              | refine ⟨by omega, ?_⟩
            refine ⟨by decide, ⟨by omega, by simp [scale], by show _ * 1 ≤ _; omega⟩, fun c' hc' => ?_⟩
            refine ⟨⟨by omega, by omega⟩, (j + 1, c'), [0, 1, 5, 3], ⟨⟨rfl, rfl, rfl⟩, ?_⟩, ⟨by omega, by omega⟩, by dsimp only; omega⟩
            refine ⟨rfl, rfl, rfl, rfl, rfl, rfl, rfl, rfl, rfl, rfl, rfl, rfl, rfl, fun j hj => eqC_bytes (fun i hi => bytesF_lt hi) j, rfl, fun j hj => eqC_bytes (fun i hi => bytesF_lt hi) j, rfl, fun j' hj' => eqC_bytes (fun i hi => app_bytes (W := (rKeyS B key (k + 1)).1) (fun _ _ => rfl) (fun i hi => ?_) i hi) j', rfl, fun j hj => ⟨rfl, trivial⟩, trivial⟩
            obtain rfl : i = 0 := by omega
            refine congrArg SC.w8 ?_
            rw [e4, e5]
            simp only [rKeyS]
            rw [if_pos (by omega), if_neg (by omega), show 4 * (k + 4) + j + 0 - 4 * (k + 4) = j by omega]
            rfl
          · obtain rfl : j = 4 := by have : ¬ (j : Int) < 4 := of_decide_eq_false h; omega
            refine ⟨⟨by omega, by omega⟩, (k + 1, c), [0, 1, 2], ⟨⟨rfl, rfl, rfl⟩, ?_⟩, ⟨by omega, by omega⟩, by dsimp only; omega⟩
            exact ⟨rfl, rfl, rfl, rfl, by omega, rfl, rfl, rfl, rfl, fun j hj => eqC_bytes (fun i hi => bytesF_lt hi) j, rfl, fun j hj => eqC_bytes (fun i hi => bytesF_lt hi) j, rfl, fun j hj => eqC_bytes (n := 4 * (k + 1 + 4)) (f := bytesF (4 * (k + 4) + 4) _) (fun i hi => bytesF_lt (by omega)) j, trivial⟩
      · have h3 : ¬ (k + 4) % 4 = 0 := by have : ¬ ((k + 4 : Nat) : Int) % 4 = 0 := of_decide_eq_false h2; omega
        refine .inl ⟨Nat × Nat, fun (j, c) => ⟨[.a (.c (.sl 0 0 0 256 db)), .any, .any, .any, .any, .a (.c (.sl 2 0 0 (4 * (k + 4) + j) c)), .a (.c (.w8 ((rKeyS B key (k + 1)).2))), .a (.c (.int .i64 (↑(k + 4)))), .a (.c (.sl 3 0 0 4 4)), .a (.c (.int .i64 (↑j))), .any, .any, .any, .any, .any, .any, .any, .any, .any, .any, .any, .any, .any, .any, .any, .any, .any, .any, .any, .any, .any, .any, .any, .any, .any, .any, .any, .any, .any, .any, .any, .any, .any, .any, .any, .any, .any, .any, .any, .any, .any, .any, .any, .any, .any, .any, .any, .any, .any, .any, .any, .any, .any, .any, .any, .any, .any, .any, .any, .any, .any, .any, .any, .any, .any, .any, .any, .any, .any, .any, .any, .any, .any, .any, .any, .any, .any, .any, .any, .any, .any, .any, .any, .any, .any], [[.row cb (bytesF 256 B)], [.row ck (bytesF 16 key)], [.row c (bytesF (4 * (k + 4) + j) (rKeyS B key (k + 1)).1)], [.row 4 fun j => .w8 (rWord B (rKeyS B key k).1 (rKeyS B key k).2 (k + 4) j)]]⟩, fun (j, c) => j ≤ 4 ∧ 4 * (k + 4) + j ≤ c, fun (j, _) => 4 - j, ⟨(0, c), [0, 1, 2, 3], ⟨⟨rfl, rfl, rfl⟩, ?_⟩, by omega, by omega⟩, fun x => ?_⟩
        · refine ⟨rfl, rfl, rfl, rfl, rfl, rfl, (if_neg h3).symm, rfl, rfl, rfl, rfl, rfl, rfl, fun j hj => eqC_bytes (fun i hi => bytesF_lt hi) j, rfl, fun j hj => eqC_bytes (fun i hi => bytesF_lt hi) j, rfl, fun j hj => eqC_bytes (fun i hi => ?_) j, rfl, fun j hj => ?_, trivial⟩
          · have hi' : i < 4 * (k + 4) := hi
            rw [bytesF_lt hi']
            simp only [rKeyS]
            rw [if_pos hi']
          · have : j = 0 ∨ j = 1 ∨ j = 2 ∨ j = 3 := by omega
            rw [e0, e1, e2, e3]
            rcases this with rfl | rfl | rfl | rfl <;> exact eqC_w8 (congrArg SC.w8 (by unfold rWord; rw [if_neg h3]))
        · obtain ⟨j, c⟩ := x
          rintro ⟨hj, hc⟩
          refine ⟨fun h => ?_, fun h => ?_⟩
          · have hlt : (j : Int) < 4 := of_decide_eq_true h
            have e4 : (4 * ((k + 4 : Nat) : Int) - 16 + j).toNat + 0 = 4 * (k + 4) + j - 16 := by omega
            have e5 : (j : Int).toNat + 0 = j := by omega
            refine ⟨none, [], [(0, true), (1, true), (2, true), (3, true), (4, true), (5, true), (6, true), (7, true), (8, true), (9, true), (10, true), (11, true), (12, true), (13, true), (14, false)], [15, 16], by kernel_rfl, ?_⟩
            repeat first
              | refine frc_bytes (by omega) ?_
              | refine ⟨by omega, ?_⟩
            refine ⟨by decide, ⟨by omega, by simp [scale], by show _ * 1 ≤ _; omega⟩, fun c' hc' => ?_⟩
            refine ⟨⟨by omega, by omega⟩, (j + 1, c'), [0, 1, 5, 3], ⟨⟨rfl, rfl, rfl⟩, ?_⟩, ⟨by omega, by omega⟩, by dsimp only; omega⟩
            refine ⟨rfl, rfl, rfl, rfl, rfl, rfl, rfl, rfl, rfl, rfl, rfl, rfl, rfl, fun j hj => eqC_bytes (fun i hi => bytesF_lt hi) j, rfl, fun j hj => eqC_bytes (fun i hi => bytesF_lt hi) j, rfl, fun j' hj' => eqC_bytes (fun i hi => app_bytes (W := (rKeyS B key (k + 1)).1) (fun _ _ => rfl) (fun i hi => ?_) i hi) j', rfl, fun j hj => ⟨rfl, trivial⟩, trivial⟩
            obtain rfl : i = 0 := by omega
            refine congrArg SC.w8 ?_
            rw [e4, e5]
            simp only [rKeyS]
            rw [if_pos (by omega), if_neg (by omega), show 4 * (k + 4) + j + 0 - 4 * (k + 4) = j by omega]
            rfl
          · obtain rfl : j = 4 := by have : ¬ (j : Int) < 4 := of_decide_eq_false h; omega
            refine ⟨⟨by omega, by omega⟩, (k + 1, c), [0, 1, 2], ⟨⟨rfl, rfl, rfl⟩, ?_⟩, ⟨by omega, by omega⟩, by dsimp only; omega⟩
            exact ⟨rfl, rfl, rfl, rfl, by omega, rfl, rfl, rfl, rfl, fun j hj => eqC_bytes (fun i hi => bytesF_lt hi) j, rfl, fun j hj => eqC_bytes (fun i hi => bytesF_lt hi) j, rfl, fun j hj => eqC_bytes (n := 4 * (k + 1 + 4)) (f := bytesF (4 * (k + 4) + 4) _) (fun i hi => bytesF_lt (by omega)) j, trivial⟩
    · obtain rfl : k = 40 := by have : ¬ ((k + 4 : Nat) : Int) < 44 := of_decide_eq_false h; omega
      exact ⟨.a (.c (.sl 2 0 0 176 c)), [[.row cb (bytesF 256 B)], [.row ck (bytesF 16 key)], [.row c (bytesF 176 (rKeys B key))]], ⟨[0, 1, 2], ⟨rfl, rfl, rfl⟩, rfl, rfl, rfl, rfl, fun j hj => eqC_bytes (fun i hi => bytesF_lt hi) j, rfl, fun j hj => eqC_bytes (fun i hi => bytesF_lt hi) j, rfl, fun j hj => eqC_bytes (fun i hi => bytesF_lt hi) j, trivial⟩, c, rfl, rfl, by omega⟩
end Sx
end Go.Proofs.Ytndlhhhebijknaa
end

section
/-
  The program's tables: filled; blocks shifted. No condition.
-/
namespace Go.Proofs.Ytndlhhhebijknaa
set_option linter.unusedVariables false
namespace Sx
open Aes

/-- Tables: done or not, the lock, the boxes, the counter. -/
abbrev tabs (d : BitVec 32) (m : Int) (b : Nat → BitVec 8) (n : Int) : List Seg := [.one (.w32 d), .one (.int .i32 m), .one (.w32 0), .row 256 (fun i => .w8 (b i)), .one (.int .i64 n)]
def boxes (i : Nat) : BitVec 8 := box (BitVec.ofNat 8 i)
theorem fn_fill (d : BitVec 32) (m : Int) (b : Nat → BitVec 8) (n : Int) : Fn Try.prog tds 66 [tabs d m b n] [.c (.p 0 0 0)] (fun _ => True) (fun x hs => x = .tup [] ∧ hs = [tabs d m boxes n]) := by
  refine fn_of_body tds_ok follows_ Try.func66 rfl (t := [.a (.c (.p 0 0 0)), .any, .any, .any, .any, .any, .any, .any, .any, .any, .any, .any, .any, .any, .any, .any, .any, .any, .any, .any, .any, .any, .any, .any, .any, .any, .any, .any, .any, .any, .any]) rfl (fun w r0 hr _ => ?_)
  obtain ⟨x0, rfl⟩ := List.length_eq_one_iff.1 hr
  refine .inl ⟨Nat, fun k => ⟨[.a (.c (.p 0 0 0)), .any, .any, .any, .any, .any, .a (.c (.int .i64 (↑k))), .any, .any, .any, .any, .any, .any, .any, .any, .any, .any, .any, .any, .any, .any, .any, .any, .any, .any, .any, .any, .any, .any, .any, .any], [tabs d m (fun i => if i < k then boxes i else b i) n]⟩, fun k => k ≤ 256, fun k => 256 - k, ⟨0, [0], ⟨⟨rfl, rfl, rfl⟩, ?_⟩, by omega⟩, fun k hk => ⟨fun h => ?_, fun h => ?_⟩⟩
  · exact ⟨rfl, rfl, rfl, rfl, rfl, rfl, fun j hj => ⟨by simp, trivial⟩, rfl, trivial⟩
  · have hlt : (k : Int) < 256 := of_decide_eq_true h
    refine ⟨by kernel_rfl, call_same (fn_inverse _) [] rfl ⟨rfl, trivial⟩ trivial (fun _ _ => trivial) ?_⟩
    rintro x hs ⟨rfl, rfl⟩
    refine .inl ⟨Nat, fun j => ⟨[.a (.c (.p 0 0 0)), .any, .a (.c (.int .i64 (↑k))), .a (.c (.w8 ((inverse (BitVec.ofNat 8 k))))), .a (.c (.w8 ((boxS (inverse (BitVec.ofNat 8 k)) j)))), .any, .a (.c (.int .i64 (↑k))), .any, .any, .any, .any, .any, .any, .any, .a (.c (.int .i64 (↑j))), .any, .any, .any, .any, .any, .any, .any, .any, .any, .any, .any, .any, .any, .any, .any, .any], [tabs d m (fun i => if i < k then boxes i else b i) n]⟩, fun j => j ≤ 4, fun j => 4 - j, ⟨0, [0], ⟨⟨rfl, rfl, rfl⟩, ?_⟩, by omega⟩, fun j hj => ⟨fun h => ?_, fun h => ?_⟩⟩
    · rw [ofIntN]
      exact ⟨rfl, rfl, rfl, rfl, rfl, rfl, rfl, rfl, rfl, rfl, fun j hj => ⟨rfl, trivial⟩, rfl, trivial⟩
    · have hlj : (j : Int) < 4 := of_decide_eq_true h
      refine ⟨⟨by omega, by omega⟩, by kernel_rfl, call_same (fn_rot8 _ (j + 1) (by omega)) [] rfl ⟨rfl, rfl, trivial⟩ trivial (fun _ _ => trivial) ?_⟩
      rintro x hs ⟨rfl, rfl⟩
      exact ⟨⟨by omega, by omega⟩, j + 1, [0], ⟨⟨rfl, rfl, rfl⟩, rfl, rfl, rfl, rfl, rfl, rfl, rfl, rfl, rfl, rfl, fun j hj => ⟨rfl, trivial⟩, rfl, trivial⟩, by dsimp only; omega, by dsimp only; omega⟩
    · obtain rfl : j = 4 := by have : ¬ (j : Int) < 4 := of_decide_eq_false h; have hj : j ≤ 4 := hj; omega
      refine ⟨by omega, by omega, rfl, ⟨by omega, by omega⟩, k + 1, [0], ⟨⟨rfl, rfl, rfl⟩, rfl, rfl, rfl, rfl, rfl, rfl, fun j hj => eqC_w8 ?_, rfl, trivial⟩, by dsimp only; omega, by dsimp only; omega⟩
      have e : (k : Int).toNat + 0 = k := by omega
      rw [e]
      refine (upd_w8 (g := fun i => .w8 (if i < k + 1 then boxes i else b i)) ?_ ?_ j).trans rfl
      · simp only [if_pos (show k < k + 1 by omega)]
        rfl
      · intro j hjk
        have : j < k + 1 ↔ j < k := by omega
        simp only [this]
  · obtain rfl : k = 256 := by have : ¬ (k : Int) < 256 := of_decide_eq_false h; have hk : k ≤ 256 := hk; omega
    exact ⟨.tup [], [tabs d m boxes n], ⟨[0], ⟨rfl, rfl, rfl⟩, rfl, rfl, rfl, rfl, fun j hj => eqC_w8 (by simp [hj]), rfl, trivial⟩, rfl, rfl⟩
theorem fn_do (d : BitVec 32) (b : Nat → BitVec 8) (n : Int) (hd : d = 0#32 ∨ d = 1#32 ∧ b = boxes) : Fn Try.prog tds 63 [tabs d 0 b n] [.c (.p 0 0 0), .c (.clo 66 0 0 0)] (fun _ => True) (fun x hs => x = .tup [] ∧ hs = [tabs 1 0 boxes n]) := by
  rcases hd with rfl | ⟨rfl, rfl⟩
  · exact fn_once (by kernel_rfl) (fn_fill 0#32 1 b n)
  · exact fn_once_done
theorem boxes_at (c : BitVec 8) : boxes c.toNat = box c := by unfold boxes; rw [BitVec.ofNat_toNat, BitVec.setWidth_eq]
theorem fn_shift (b : Nat → BitVec 8) (n : Int) : FnR Try.prog tds 71 1 [tabs 1 0 boxes n] [.c (.p 0 0 0), blk b] (fun _ => True) (fun x hs => x = .a (blk (shiftAt b)) ∧ hs = [tabs 1 0 boxes n]) := by
  refine fn_of_body tds_ok follows_ Try.func71 rfl (t := .a (.c (.p 0 0 0)) :: .a (blk b) :: anys 32) rfl (fun w r0 hr _ => ?_)
  obtain ⟨x0, rfl⟩ := List.length_eq_one_iff.1 hr
  refine ⟨rfl, .inl ⟨Nat, fun k => ⟨[.a (.c (.p 0 0 0)), .any, .any, .a (.c (.p 1 0 0)), .a (.c (.p 2 0 0)), .a (.c (.p 3 0 0)), .any, .any, .any, .a (.c (.int .i64 (↑k))), .any, .any, .any, .any, .any, .any, .any, .any, .any, .any, .any, .any, .any, .any, .any, .any, .any, .any, .any, .any, .any, .any, .any, .any], [tabs 1 0 boxes n, [.row 16 fun i => .w8 (b i)], [.row 16 fun _ => .w8 0], [.row 16 fun i => .w8 (if i < k then shiftAt b i else 0#8)]]⟩, fun k => k ≤ 16, fun k => 16 - k, ⟨0, [0, 1, 2, 3], ⟨⟨rfl, rfl, rfl⟩, ?_⟩, by omega⟩, fun k hk => ⟨fun h => ?_, fun h => ?_⟩⟩⟩
  · exact ⟨rfl, rfl, rfl, rfl, rfl, rfl, rfl, rfl, rfl, fun j hj => ⟨rfl, trivial⟩, rfl, rfl, fun j hj => ⟨rfl, trivial⟩, rfl, fun j hj => ⟨rfl, trivial⟩, rfl, fun j hj => ⟨by simp, trivial⟩, trivial⟩
  · have hlt : (k : Int) < 16 := of_decide_eq_true h
    repeat refine ⟨by omega, ?_⟩
    refine ⟨none, [], [(0, true), (1, true), (2, true), (3, true), (4, true), (5, true), (6, true), (7, true), (8, true), (9, true), (10, true), (11, true), (12, true), (13, true), (14, true), (15, true)], [16], by kernel_rfl, ?_⟩
    repeat first
      | refine ⟨by omega, ?_⟩
      | refine ⟨idx8 _, ?_⟩
      | refine ⟨lt8 (Nat.le_refl _) _, ?_⟩
    refine ⟨rfl, ⟨by omega, by omega⟩, k + 1, [0, 1, 2, 3], ⟨⟨rfl, rfl, rfl⟩, ?_⟩, by dsimp only; omega, by dsimp only; omega⟩
    refine ⟨rfl, rfl, rfl, rfl, rfl, rfl, rfl, rfl, rfl, fun j hj => ⟨rfl, trivial⟩, rfl, rfl, fun j hj => ⟨rfl, trivial⟩, rfl, fun j hj => ⟨rfl, trivial⟩, rfl, fun j hj => eqC_w8 ?_, trivial⟩
    have e0 : (k : Int).toNat + 0 = k := by omega
    have e1 : (4 * (((k : Int) / 4 + (k : Int) % 4) % 4) + (k : Int) % 4).toNat + 0 = 4 * ((k / 4 + k % 4) % 4) + k % 4 := by omega
    have e2 : ∀ x : BitVec 8, ((x.toNat : Int)).toNat + 0 = x.toNat := fun x => by omega
    rw [e0, e1, e2, boxes_at]
    refine (upd_w8 (g := fun i => .w8 (if i < k + 1 then shiftAt b i else 0#8)) ?_ ?_ j).trans rfl
    · simp only [if_pos (show k < k + 1 by omega)]
      rfl
    · intro j hjk
      have : j < k + 1 ↔ j < k := by omega
      simp only [this]
  · obtain rfl : k = 16 := by have : ¬ (k : Int) < 16 := of_decide_eq_false h; have hk : k ≤ 16 := hk; omega
    exact ⟨by omega, rfl, rfl, by omega, .a (blk (shiftAt b)), [tabs 1 0 boxes n], ⟨[0], ⟨rfl, rfl, rfl⟩, rfl, rfl, fun j hj => eqC_w8 (by simp [hj]), rfl, rfl, rfl, rfl, fun j hj => ⟨rfl, trivial⟩, rfl, trivial⟩, rfl, rfl⟩
end Sx
end Go.Proofs.Ytndlhhhebijknaa
end

section
/-
  The program's round keys. No condition.
-/
namespace Go.Proofs.Ytndlhhhebijknaa
set_option linter.unusedVariables false
namespace Sx
open Aes

theorem fn_new : Fn Try.prog tds 33 [] [] (fun _ => True) (fun x hs => x = .a (.c (.p 0 0 0)) ∧ hs = [tabs 0 0 (fun _ => 0#8) 0]) := by
  refine fn_of_body tds_ok follows_ Try.func33 rfl (t := anys 2) rfl (fun w r0 hr _ => ?_)
  obtain rfl : r0 = [] := List.eq_nil_of_length_eq_zero hr
  exact ⟨.a (.c (.p 0 0 0)), [tabs 0 0 (fun _ => 0#8) 0], ⟨[0], ⟨rfl, rfl, rfl⟩, rfl, rfl, rfl, rfl, rfl, fun j hj => ⟨rfl, trivial⟩, rfl, trivial⟩, rfl, rfl⟩
/-- A key: its tables, its round keys. -/
abbrev keyC (K : Nat → BitVec 8) : List Seg := [.one (.p 0 0 0), .row 176 (fun i => .w8 (K i))]
theorem pNow_lo (old : Nat → BitVec 8) (p : BitVec 8) {i : Nat} (h : i < 4) : pNow old p i = if i = 0 then old 0 ^^^ box (old 13) ^^^ p else old i ^^^ box (old (12 + (i + 1) % 4)) := by
  unfold pNow
  rw [show i / 4 = 0 by omega, show i % 4 = i by omega]
  rfl
theorem pNow_hi (old : Nat → BitVec 8) (p : BitVec 8) {i : Nat} (h : 4 ≤ i) : pNow old p i = old i ^^^ pNow old p (i - 4) := by
  unfold pNow
  obtain ⟨c, hc⟩ : ∃ c, i / 4 = c + 1 := ⟨i / 4 - 1, by omega⟩
  rw [hc, show (i - 4) / 4 = c by omega, show (i - 4) % 4 = i % 4 by omega]
  show old (4 * (c + 1) + i % 4) ^^^ _ = _
  rw [show 4 * (c + 1) + i % 4 = i by omega]
theorem pKeyS_lt (key : Nat → BitVec 8) (r : Nat) {i : Nat} (h : i < 16 * (r + 1)) : (pKeyS key (r + 1)).1 i = (pKeyS key r).1 i := by
  simp only [pKeyS]; rw [if_pos h]
theorem pKeyS_ge (key : Nat → BitVec 8) (r : Nat) (i : Nat) : (pKeyS key (r + 1)).1 (16 * (r + 1) + i) = pNow (fun j => (pKeyS key r).1 (16 * r + j)) (pKeyS key r).2 i := by
  simp only [pKeyS]; rw [if_neg (by omega), show 16 * (r + 1) + i - 16 * (r + 1) = i by omega]
set_option maxHeartbeats 2000000 in
theorem fn_key (d : BitVec 32) (b : Nat → BitVec 8) (n : Int) (key : Nat → BitVec 8) (hd : d = 0#32 ∨ d = 1#32 ∧ b = boxes) :
    Fn Try.prog tds 52 [tabs d 0 b n] [.c (.p 0 0 0), blk key] (fun _ => True) (fun x hs => x = .a (.c (.p 1 0 0)) ∧ hs = [tabs 1 0 boxes n, keyC (pKeys key)]) := by
  refine fn_of_body tds_ok follows_ Try.func52 rfl (t := .a (.c (.p 0 0 0)) :: .a (blk key) :: anys 94) rfl (fun w r0 hr _ => ?_)
  obtain ⟨x0, rfl⟩ := List.length_eq_one_iff.1 hr
  refine ⟨rfl, fun h => absurd h (by decide), fun _ => ?_⟩
  refine ⟨by kernel_rfl, call_same (fn_do d b n hd) [0] rfl ⟨rfl, rfl, rfl, trivial⟩ ⟨rfl, rfl, rfl, rfl, fun j hj => ⟨rfl, trivial⟩, rfl, trivial⟩ (fun _ _ => trivial) ?_⟩
  rintro x hs ⟨rfl, rfl⟩
  refine ⟨rfl, rfl, none, [], [(0, true), (1, true), (2, true), (3, true), (4, true)], [5], by kernel_rfl, ?_⟩
  repeat refine ⟨by omega, ?_⟩
  refine ⟨by decide, rfl, .inl ⟨Nat, fun r => ⟨[.a (.c (.p 0 0 0)), .any, .any, .any, .any, .a (.c (.p 1 0 0)), .a (.c (.w8 ((pKeyS key r).2))), .a (.c (.int .i64 (↑(r + 1)))), .any, .any, .any, .any, .any, .any, .any, .any, .any, .any, .any, .any, .any, .any, .any, .any, .any, .any, .any, .any, .any, .any, .any, .any, .any, .any, .any, .any, .any, .any, .any, .any, .any, .any, .any, .any, .any, .any, .any, .any, .any, .any, .any, .any, .any, .any, .any, .any, .any, .any, .any, .any, .any, .any, .any, .any, .any, .any, .any, .any, .any, .any, .any, .any, .any, .any, .any, .any, .any, .any, .any, .any, .any, .any, .any, .any, .any, .any, .any, .any, .any, .any, .any, .any, .any, .any, .any, .any], [tabs 1 0 boxes n, keyC fun i => if i < 16 * (r + 1) then (pKeyS key r).1 i else 0#8]⟩, fun r => r ≤ 10, fun r => 10 - r, ⟨0, [0, 2], ⟨⟨rfl, rfl, rfl⟩, ?_⟩, by omega⟩, fun r hr => ⟨fun h => ?_, fun h => ?_⟩⟩⟩
  · refine ⟨rfl, rfl, rfl, rfl, rfl, rfl, rfl, rfl, fun j hj => ⟨rfl, trivial⟩, rfl, rfl, rfl, fun j hj => eqC_w8 ?_, trivial⟩
    show (if 0 ≤ j ∧ j < 0 + 16 then SC.w8 (key (j - 0 + 0)) else SC.w8 0) = SC.w8 (if j < 16 then key j else 0#8)
    by_cases hj16 : j < 16
    · rw [if_pos ⟨by omega, by omega⟩, if_pos hj16]
      rfl
    · rw [if_neg (by omega), if_neg hj16]
      rfl
  · have hlt : ((r + 1 : Nat) : Int) ≤ 10 := of_decide_eq_true h
    repeat refine ⟨by omega, ?_⟩
    refine ⟨(by omega : (((r + 1 : Nat) : Int) - 1).toNat * 16 + 0 + 16 ≤ 176), rfl, rfl, ⟨by omega, by omega⟩, ?_⟩
    refine .inl ⟨Nat, fun k => ⟨[.a (.c (.p 0 0 0)), .any, .any, .any, .any, .a (.c (.p 1 0 0)), .a (.c (.w8 ((pKeyS key r).2))), .a (.c (.int .i64 (↑(r + 1)))), .a (.c (.p 2 0 0)), .a (.c (.p 1 1 (16 * (r + 1)))), .any, .any, .any, .any, .any, .any, .any, .any, .any, .any, .any, .any, .any, .any, .any, .any, .any, .any, .any, .any, .any, .any, .any, .any, .any, .any, .any, .any, .any, .any, .any, .any, .any, .any, .a (.c (.int .i64 (↑k))), .any, .any, .any, .any, .any, .any, .any, .any, .any, .any, .any, .any, .any, .any, .any, .any, .any, .any, .any, .any, .any, .any, .any, .any, .any, .any, .any, .any, .any, .any, .any, .any, .any, .any, .any, .any, .any, .any, .any, .any, .any, .any, .any, .any, .any, .any, .any, .any, .any, .any, .any], [tabs 1 0 boxes n, keyC fun i => if i < 16 * (r + 1) then (pKeyS key r).1 i else if i < 16 * (r + 1) + k then (pKeyS key r).1 (16 * r + (i - 16 * (r + 1))) ^^^ box ((pKeyS key r).1 (16 * r + (12 + (i - 16 * (r + 1) + 1) % 4))) else 0#8, [.row 16 fun j => .w8 ((pKeyS key r).1 (16 * r + j))]]⟩, fun k => k ≤ 4, fun k => 4 - k, ⟨0, [0, 1, 2], ⟨⟨rfl, rfl, rfl⟩, ?_⟩, by omega⟩, fun k hk => ⟨fun h => ?_, fun h => ?_⟩⟩
    · refine ⟨rfl, rfl, rfl, rfl, rfl, (by omega : ((r + 1 : Nat) : Int).toNat * 16 + 0 = 16 * (r + 1)), rfl, rfl, rfl, rfl, rfl, fun j hj => ⟨rfl, trivial⟩, rfl, rfl, rfl, fun j hj => eqC_w8 (congrArg SC.w8 ?_), rfl, fun j hj => eqC_w8 (congrArg SC.w8 ?_), trivial⟩
      · dsimp only
        by_cases h1 : j < 16 * (r + 1)
        · rw [if_pos h1, if_pos h1]
        · rw [if_neg h1, if_neg h1, if_neg (by omega)]
      · have e : (((r + 1 : Nat) : Int) - 1).toNat * 16 + 0 = 16 * r := by omega
        show (if j + ((((r + 1 : Nat) : Int) - 1).toNat * 16 + 0) < 16 * (r + 1) then (pKeyS key r).1 (j + ((((r + 1 : Nat) : Int) - 1).toNat * 16 + 0)) else 0#8) = _
        rw [e, if_pos (by omega), Nat.add_comm]
    · have hlk : (k : Int) < 4 := of_decide_eq_true h
      refine ⟨none, [], [(0, true), (1, true), (2, true), (3, true), (4, true), (5, true), (6, true), (7, true), (8, true), (9, true), (10, true), (11, true), (12, true), (13, true), (14, true), (15, true), (16, true), (17, true), (18, true)], [19], by kernel_rfl, ?_⟩
      repeat first
        | refine ⟨by omega, ?_⟩
        | refine ⟨idx8 _, ?_⟩
        | refine ⟨lt8 (Nat.le_refl _) _, ?_⟩
      refine ⟨rfl, ⟨by omega, by omega⟩, k + 1, [0, 1, 2], ⟨⟨rfl, rfl, rfl⟩, ?_⟩, by dsimp only; omega, by dsimp only; omega⟩
      refine ⟨rfl, rfl, rfl, rfl, rfl, rfl, rfl, rfl, rfl, rfl, rfl, fun j hj => ⟨rfl, trivial⟩, rfl, rfl, rfl, fun j hj => eqC_w8 ?_, rfl, fun j hj => ⟨rfl, trivial⟩, trivial⟩
      have e0 : (k : Int).toNat + 0 = k := by omega
      have e1 : (12 + ((k : Int) + 1) % 4).toNat + 0 = 12 + (k + 1) % 4 := by omega
      have e2 : ∀ x : BitVec 8, ((x.toNat : Int)).toNat + 0 = x.toNat := fun x => by omega
      have e3 : (k : Int).toNat + 16 * (r + 1) = 16 * (r + 1) + k := by omega
      rw [e0, e1, e2, boxes_at, e3]
      refine (upd_w8 (g := fun i => .w8 (if i < 16 * (r + 1) then (pKeyS key r).1 i else if i < 16 * (r + 1) + (k + 1) then (pKeyS key r).1 (16 * r + (i - 16 * (r + 1))) ^^^ box ((pKeyS key r).1 (16 * r + (12 + (i - 16 * (r + 1) + 1) % 4))) else 0#8)) ?_ ?_ j).trans rfl
      · rw [if_neg (by omega), if_pos (by omega), show 16 * (r + 1) + k - 16 * (r + 1) = k by omega]
      · intro j hjk
        have : j < 16 * (r + 1) + (k + 1) ↔ j < 16 * (r + 1) + k := by omega
        simp only [this]
    · obtain rfl : k = 4 := by have : ¬ (k : Int) < 4 := of_decide_eq_false h; have hk : k ≤ 4 := hk; omega
      refine ⟨none, [], [(0, true), (1, true), (2, true), (3, true), (4, true), (5, true), (6, true), (7, true)], [8], by kernel_rfl, ?_⟩
      repeat refine ⟨by omega, ?_⟩
      refine ⟨rfl, .inl ⟨Nat, fun k => ⟨[.a (.c (.p 0 0 0)), .any, .any, .any, .any, .a (.c (.p 1 0 0)), .a (.c (.w8 ((pKeyS key r).2))), .a (.c (.int .i64 (↑(r + 1)))), .a (.c (.p 2 0 0)), .a (.c (.p 1 1 (16 * (r + 1)))), .any, .a (.c (.int .i64 (↑k))), .any, .any, .any, .any, .any, .any, .any, .any, .any, .any, .any, .any, .any, .any, .any, .any, .any, .any, .any, .any, .any, .any, .any, .any, .any, .any, .any, .any, .any, .any, .any, .any, .any, .any, .any, .any, .any, .any, .any, .any, .any, .any, .any, .any, .any, .any, .any, .any, .any, .any, .any, .any, .any, .any, .any, .any, .any, .any, .any, .any, .any, .any, .any, .any, .any, .any, .any, .any, .any, .any, .any, .any, .any, .any, .any, .any, .any, .any, .any, .any, .any, .any, .any, .any], [tabs 1 0 boxes n, keyC fun i => if i < 16 * (r + 1) + k then (pKeyS key (r + 1)).1 i else 0#8, [.row 16 fun j => .w8 ((pKeyS key r).1 (16 * r + j))]]⟩, fun k => 4 ≤ k ∧ k ≤ 16, fun k => 16 - k, ⟨4, [0, 1, 2], ⟨⟨rfl, rfl, rfl⟩, ?_⟩, by omega, by omega⟩, fun k hk => ⟨fun h => ?_, fun h => ?_⟩⟩⟩
      · refine ⟨rfl, rfl, rfl, rfl, rfl, rfl, rfl, rfl, rfl, rfl, rfl, fun j hj => ⟨rfl, trivial⟩, rfl, rfl, rfl, fun j hj => eqC_w8 ?_, rfl, fun j hj => ⟨rfl, trivial⟩, trivial⟩
        have e0 : Int.toNat 0 + 16 * (r + 1) = 16 * (r + 1) := Nat.zero_add _
        rw [e0]
        refine (upd_w8 (g := fun i => .w8 (if i < 16 * (r + 1) + 4 then (pKeyS key (r + 1)).1 i else 0#8)) ?_ ?_ j).trans rfl
        · refine congrArg SC.w8 ?_
          dsimp only
          rw [if_neg (by omega), if_pos (by omega), if_pos (by omega)]
          have e := pKeyS_ge key r 0
          rw [pNow_lo _ _ (by omega), if_pos rfl] at e
          rw [Nat.sub_self]
          exact e.symm
        · intro j hj
          refine congrArg SC.w8 ?_
          dsimp only
          by_cases h1 : j < 16 * (r + 1)
          · rw [if_pos h1, if_pos (by omega), pKeyS_lt key r h1]
          · rw [if_neg h1]
            by_cases h2 : j < 16 * (r + 1) + 4
            · rw [if_pos h2, if_pos h2]
              obtain ⟨i, rfl⟩ : ∃ i, j = 16 * (r + 1) + i := ⟨j - 16 * (r + 1), by omega⟩
              rw [pKeyS_ge key r i, pNow_lo _ _ (by omega), if_neg (by omega), show 16 * (r + 1) + i - 16 * (r + 1) = i by omega]
            · rw [if_neg h2, if_neg h2]
      · have hlk : (k : Int) < 16 := of_decide_eq_true h
        obtain ⟨hk4, hk16⟩ := hk
        refine ⟨none, [], [(0, true), (1, true), (2, true), (3, true), (4, true), (5, true), (6, true), (7, true), (8, true), (9, true), (10, true), (11, true), (12, true), (13, true)], [14], by kernel_rfl, ?_⟩
        repeat refine ⟨by omega, ?_⟩
        refine ⟨rfl, ⟨by omega, by omega⟩, k + 1, [0, 1, 2], ⟨⟨rfl, rfl, rfl⟩, ?_⟩, by omega, by dsimp only; omega⟩
        refine ⟨rfl, rfl, rfl, rfl, rfl, rfl, rfl, rfl, rfl, rfl, rfl, fun j hj => ⟨rfl, trivial⟩, rfl, rfl, rfl, fun j hj => eqC_w8 ?_, rfl, fun j hj => ⟨rfl, trivial⟩, trivial⟩
        have e0 : (k : Int).toNat + 0 = k := by omega
        have e1 : (k : Int).toNat + 16 * (r + 1) = 16 * (r + 1) + k := by omega
        have e2 : ((k : Int) - 4).toNat + 16 * (r + 1) = 16 * (r + 1) + (k - 4) := by omega
        rw [e0, e1, e2]
        refine (upd_w8 (g := fun i => .w8 (if i < 16 * (r + 1) + (k + 1) then (pKeyS key (r + 1)).1 i else 0#8)) ?_ ?_ j).trans rfl
        · refine congrArg SC.w8 ?_
          dsimp only
          rw [if_pos (by omega), if_pos (by omega), pKeyS_ge key r k, pKeyS_ge key r (k - 4), pNow_hi _ _ hk4]
        · intro j hjk
          have : j < 16 * (r + 1) + (k + 1) ↔ j < 16 * (r + 1) + k := by omega
          simp only [this]
      · obtain rfl : k = 16 := by have : ¬ (k : Int) < 16 := of_decide_eq_false h; omega
        refine ⟨by kernel_rfl, call_same (fn_times _ _) [] rfl ⟨rfl, rfl, trivial⟩ trivial (fun _ _ => trivial) ?_⟩
        rintro x hs ⟨rfl, rfl⟩
        refine ⟨⟨by omega, by omega⟩, r + 1, [0, 1], ⟨⟨rfl, rfl, rfl⟩, rfl, rfl, rfl, rfl, rfl, rfl, rfl, rfl, fun j hj => ⟨rfl, trivial⟩, rfl, rfl, rfl, fun j hj => eqC_w8 ?_, trivial⟩, by dsimp only; omega, by dsimp only; omega⟩
        rfl
  · obtain rfl : r = 10 := by have : ¬ ((r + 1 : Nat) : Int) ≤ 10 := of_decide_eq_false h; have hr : r ≤ 10 := hr; omega
    exact ⟨.a (.c (.p 1 0 0)), [tabs 1 0 boxes n, keyC (pKeys key)], ⟨[0, 1], ⟨rfl, rfl, rfl⟩, rfl, rfl, rfl, rfl, rfl, fun j hj => ⟨rfl, trivial⟩, rfl, rfl, rfl, fun j hj => eqC_w8 (congrArg SC.w8 (if_pos hj)), trivial⟩, rfl, rfl⟩
end Sx
end Go.Proofs.Ytndlhhhebijknaa
end

section
/-
  The program's block, turned by a key. No condition.
-/
namespace Go.Proofs.Ytndlhhhebijknaa
set_option linter.unusedVariables false
namespace Sx
open Aes

theorem put_count (n : Int) : Put [.one (.int .i64 (n + 1))] (tabs 1 0 boxes n) (tabs 1 0 boxes (n + 1)) 259 := by
  obtain ⟨l', e, hp⟩ := putS_spec (new := [.one (.int .i64 (n + 1))]) (l := tabs 1 0 boxes n) (b := 259) (o := 0) (k := fun l' => l' = tabs 1 0 boxes (n + 1)) rfl
  subst e
  exact hp
theorem tabs_count (d : BitVec 32) (m : Int) (b : Nat → BitVec 8) (n : Int) : (flat (tabs d m b n))[259]? = some (.int .i64 n) := by
  have e : flat (tabs d m b n) = .w32 d :: .int .i32 m :: .w32 0 :: ((List.range 256).map (fun i => SC.w8 (b i)) ++ [.int .i64 n]) := rfl
  rw [e, show 259 = 256 + 1 + 1 + 1 from rfl, List.getElem?_cons_succ, List.getElem?_cons_succ, List.getElem?_cons_succ, List.getElem?_append_right (by simp)]
  simp
theorem fn_turn (n : Int) (key b : Nat → BitVec 8) (hn : -9223372036854775808 ≤ n + 1 ∧ n + 1 ≤ 9223372036854775807) :
    Fn Try.prog tds 54 [tabs 1 0 boxes n, keyC (pKeys key)] [.c (.p 1 0 0), blk b] (fun _ => True) (fun x hs => x = .a (blk (pTurn key b)) ∧ hs = [tabs 1 0 boxes (n + 1), keyC (pKeys key)]) := by
  refine fn_of_body tds_ok follows_ Try.func54 rfl (t := .a (.c (.p 1 0 0)) :: .a (blk b) :: anys 58) rfl (fun w r0 hr _ => ?_)
  obtain ⟨x0, x1, rfl⟩ := len2' hr
  refine ⟨rfl, ?_⟩
  repeat first
    | refine ⟨fun _ => ?_, fun h => absurd h (by decide)⟩
    | refine ⟨fun h => absurd h (by decide), fun _ => ?_⟩
  refine ⟨by kernel_rfl, call_same (fn_i64_add (tabs_count _ _ _ n) (by simp) (put_count n) hn) [0] rfl ⟨rfl, rfl, trivial⟩ ⟨rfl, rfl, rfl, rfl, fun j hj => ⟨rfl, trivial⟩, rfl, trivial⟩ (fun _ _ => trivial) ?_⟩
  rintro x hs ⟨rfl, rfl⟩
  refine ⟨none, [], [(0, true), (1, true), (2, true), (3, true), (4, true), (5, true), (6, false)], [7], by kernel_rfl, ?_⟩
  repeat refine ⟨by omega, ?_⟩
  refine ⟨by decide, ?_⟩
  refine ⟨by kernel_rfl, call_same (fn_sum b (fun j => pKeys key (j + 0))) [] rfl ⟨rfl, rfl, fun j hj => ⟨rfl, trivial⟩, rfl, rfl, fun j hj => ⟨rfl, trivial⟩, trivial⟩ trivial (fun _ _ => trivial) ?_⟩
  rintro x hs ⟨rfl, rfl⟩
  refine ⟨rfl, rfl, .inl ⟨Nat, fun r => ⟨[.a (.c (.p 1 0 0)), .any, .any, .a (.c (.p 2 0 0)), .a (.c (.p 3 0 0)), .a (.c (.int .i64 (↑(r + 1)))), .any, .any, .any, .any, .any, .any, .any, .any, .any, .any, .any, .any, .any, .any, .any, .any, .any, .any, .any, .any, .any, .any, .any, .any, .any, .any, .any, .any, .any, .any, .any, .any, .any, .any, .any, .any, .any, .any, .any, .any, .any, .any, .any, .any, .any, .any, .any, .any, .any, .any, .any, .any, .any, .any], [tabs 1 0 boxes (n + 1), keyC (pKeys key), [.row 16 fun i => .w8 (pTurnS key b r i)], [.row 16 fun _ => .w8 0]]⟩, fun r => r ≤ 9, fun r => 9 - r, ⟨0, [0, 1, 2, 3], ⟨⟨rfl, rfl, rfl⟩, ?_⟩, by omega⟩, fun r hr => ⟨fun h => ?_, fun h => ?_⟩⟩⟩
  · (repeat first | exact trivial | refine ⟨rfl, ?_⟩ | refine ⟨fun _ _ => ⟨rfl, trivial⟩, ?_⟩ | refine ⟨by omega, ?_⟩)
  · have hlt : ((r + 1 : Nat) : Int) < 10 := of_decide_eq_true h
    refine ⟨none, [], [(0, true), (1, true), (2, true), (3, true), (4, true), (7, true), (8, true), (9, true), (10, true), (11, true), (12, true), (5, false), (6, false), (13, false)], [14], by kernel_rfl, ?_⟩
    repeat refine ⟨by omega, ?_⟩
    refine ⟨(by omega : ((r + 1 : Nat) : Int).toNat * 16 + 0 + 16 ≤ 176), ?_⟩
    refine ⟨by kernel_rfl, call_same (fn_shift (pTurnS key b r) (n + 1)) [0] rfl ⟨rfl, rfl, rfl, fun j hj => ⟨rfl, trivial⟩, trivial⟩ (by (repeat first | exact trivial | refine ⟨rfl, ?_⟩ | refine ⟨fun _ _ => ⟨rfl, trivial⟩, ?_⟩ | refine ⟨by omega, ?_⟩)) (fun _ _ => trivial) ?_⟩
    rintro x hs ⟨rfl, rfl⟩
    refine ⟨by kernel_rfl, call_same (fn_mix _) [] rfl ⟨rfl, rfl, fun j hj => ⟨rfl, trivial⟩, trivial⟩ trivial (fun _ _ => trivial) ?_⟩
    rintro x hs ⟨rfl, rfl⟩
    refine ⟨by kernel_rfl, call_same (fn_sum _ (fun j => pKeys key (j + (((r + 1 : Nat) : Int).toNat * 16 + 0)))) [] rfl ⟨rfl, rfl, fun j hj => ⟨rfl, trivial⟩, rfl, rfl, fun j hj => ⟨rfl, trivial⟩, trivial⟩ trivial (fun _ _ => trivial) ?_⟩
    rintro x hs ⟨rfl, rfl⟩
    refine ⟨rfl, rfl, ⟨by omega, by omega⟩, r + 1, [0, 1, 2, 3], ⟨⟨rfl, rfl, rfl⟩, ?_⟩, by dsimp only; omega, by dsimp only; omega⟩
    (repeat first | exact trivial | refine ⟨rfl, ?_⟩ | refine ⟨fun _ _ => ⟨rfl, trivial⟩, ?_⟩ | refine ⟨by omega, ?_⟩)
    refine ⟨fun j hj => eqC_w8 (congrArg SC.w8 ?_), ?_⟩
    · show mixAt (shiftAt (pTurnS key b r)) j ^^^ pKeys key (j + (((r + 1 : Nat) : Int).toNat * 16 + 0)) = mixAt (shiftAt (pTurnS key b r)) j ^^^ pKeys key (16 * (r + 1) + j)
      rw [show j + (((r + 1 : Nat) : Int).toNat * 16 + 0) = 16 * (r + 1) + j by omega]
    · (repeat first | exact trivial | refine ⟨rfl, ?_⟩ | refine ⟨fun _ _ => ⟨rfl, trivial⟩, ?_⟩ | refine ⟨by omega, ?_⟩)
  · obtain rfl : r = 9 := by have : ¬ ((r + 1 : Nat) : Int) < 10 := of_decide_eq_false h; have hr : r ≤ 9 := hr; omega
    refine ⟨none, [], [(0, true), (1, true), (2, true), (3, true), (4, true), (6, true), (7, true), (8, true), (9, true), (10, true), (5, false), (11, false)], [12], by kernel_rfl, ?_⟩
    (repeat first | refine ⟨by omega, ?_⟩ | refine ⟨by decide, ?_⟩ | refine ⟨idx8 _, ?_⟩ | refine ⟨lt8 (Nat.le_refl _) _, ?_⟩)
    refine ⟨by kernel_rfl, call_same (fn_shift (pTurnS key b 9) (n + 1)) [0] rfl ⟨rfl, rfl, rfl, fun j hj => ⟨rfl, trivial⟩, trivial⟩ (by (repeat first | exact trivial | refine ⟨rfl, ?_⟩ | refine ⟨fun _ _ => ⟨rfl, trivial⟩, ?_⟩ | refine ⟨by omega, ?_⟩)) (fun _ _ => trivial) ?_⟩
    rintro x hs ⟨rfl, rfl⟩
    refine ⟨by kernel_rfl, call_same (fn_sum _ (fun j => pKeys key (j + 160))) [] rfl ⟨rfl, rfl, fun j hj => ⟨rfl, trivial⟩, rfl, rfl, fun j hj => ⟨rfl, trivial⟩, trivial⟩ trivial (fun _ _ => trivial) ?_⟩
    rintro x hs ⟨rfl, rfl⟩
    refine ⟨rfl, rfl, by omega, .a (blk (pTurn key b)), [tabs 1 0 boxes (n + 1), keyC (pKeys key)], ⟨[0, 1], ⟨rfl, rfl, rfl⟩, ?_⟩, rfl, rfl⟩
    (repeat first | exact trivial | refine ⟨rfl, ?_⟩ | refine ⟨fun _ _ => ⟨rfl, trivial⟩, ?_⟩ | refine ⟨by omega, ?_⟩)
    refine ⟨fun j hj => eqC_w8 (congrArg SC.w8 ?_), ?_⟩
    · show shiftAt (pTurnS key b 9) j ^^^ pKeys key (j + 160) = shiftAt (pTurnS key b 9) j ^^^ pKeys key (160 + j)
      rw [Nat.add_comm]
    · (repeat first | exact trivial | refine ⟨rfl, ?_⟩ | refine ⟨fun _ _ => ⟨rfl, trivial⟩, ?_⟩ | refine ⟨by omega, ?_⟩)
end Sx
end Go.Proofs.Ytndlhhhebijknaa
end

section
/-
  The field of 2^128: the document's product and the program's are one. Plain. No condition.
-/
namespace Go.Proofs.Ytndlhhhebijknaa
set_option linter.unusedVariables false
namespace Gcm

/-- An element: its place 0 is the highest bit. -/
abbrev E := BitVec 128
def step (b : E) : E := if b.getLsbD 0 then b >>> 1 ^^^ 299076299051606071403356588563077529600#128 else b >>> 1
def mulS (a b : E) : Nat → E × E
  | 0 => (0#128, b)
  | k + 1 => let s := mulS a b k; (if a.getMsbD k then s.1 ^^^ s.2 else s.1, step s.2)
def mul (a b : E) : E := (mulS a b 128).1
def stepN : Nat → E → E
  | 0, x => x
  | n + 1, x => step (stepN n x)
/-- Sums of bits. -/
def xs : Nat → (Nat → Bool) → Bool
  | 0, _ => false
  | n + 1, f => xs n f ^^ f n
def xsB : Nat → (Nat → E) → E
  | 0, _ => 0#128
  | n + 1, f => xsB n f ^^^ f n
/-! The document's product. -/
def pI (a b : Nat → Bool) (i k : Nat) (P : Nat → Bool) (j : Nat) : Bool := P j ^^ (decide (i ≤ j ∧ j < i + k) && (a i && b (j - i)))
def pO (a b : Nat → Bool) : Nat → Nat → Bool
  | 0, _ => false
  | i + 1, j => pI a b i 128 (pO a b i) j
def cAt (m j : Nat) : Bool := decide (j = 126 - m ∨ j = 127 - m ∨ j = 128 - m ∨ j = 133 - m)
def rS (P : Nat → Bool) : Nat → Nat → Bool
  | 0, j => P j
  | m + 1, j => rS P m j ^^ (rS P m (254 - m) && cAt m j)
def cB (m : Nat) : BitVec 256 := 101770390931234937383997936042792106511663072460035651987804517194454899097600#256 >>> (126 - m)
def RS (X : BitVec 256) : Nat → BitVec 256
  | 0 => X
  | m + 1 => let Y := RS X m; if Y.getMsbD (254 - m) then Y ^^^ cB m else Y
def unitE (k : Nat) : E := 170141183460469231731687303715884105728#128 >>> k
def unitP (k : Nat) : BitVec 256 := 57896044618658097711785492504343953926634992332820282019728792003956564819968#256 >>> k

theorem xs_succ (n : Nat) (f : Nat → Bool) : xs (n + 1) f = (xs n f ^^ f n) := rfl
theorem xs_congr {f g : Nat → Bool} : ∀ {n : Nat}, (∀ i, i < n → f i = g i) → xs n f = xs n g
  | 0, _ => rfl
  | n + 1, h => by simp only [xs]; rw [xs_congr (fun i hi => h i (by omega)), h n (by omega)]
theorem rS_xor (P Q : Nat → Bool) : ∀ m j, rS (fun j => P j ^^ Q j) m j = (rS P m j ^^ rS Q m j)
  | 0, _ => rfl
  | m + 1, j => by
    simp only [rS]
    rw [rS_xor P Q m, rS_xor P Q m]
    cases rS P m j <;> cases rS Q m j <;> cases rS P m (254 - m) <;> cases rS Q m (254 - m) <;> cases cAt m j <;> rfl
theorem rS_zero : ∀ m j, rS (fun _ => false) m j = false
  | 0, _ => rfl
  | m + 1, j => by simp only [rS]; rw [rS_zero m, rS_zero m]; rfl
theorem rS_and (c : Bool) (P : Nat → Bool) (m j : Nat) : rS (fun j => c && P j) m j = (c && rS P m j) := by
  cases c
  · exact rS_zero m j
  · rfl
theorem rS_xs (f : Nat → Nat → Bool) (m j : Nat) : ∀ n, rS (fun j => xs n fun i => f i j) m j = xs n fun i => rS (f i) m j
  | 0 => rS_zero m j
  | n + 1 => by
    have := rS_xor (fun j => xs n fun i => f i j) (f n) m j
    rw [rS_xs f m j n] at this
    exact this
theorem xs_delta (b : Nat → Bool) (i j : Nat) : ∀ n, xs n (fun k => b k && decide (j = i + k)) = (decide (i ≤ j ∧ j < i + n) && b (j - i))
  | 0 => by
    have : ¬ (i ≤ j ∧ j < i + 0) := by omega
    simp only [xs, decide_eq_false this, Bool.false_and]
  | n + 1 => by
    simp only [xs]
    rw [xs_delta b i j n]
    by_cases h : j = i + n
    · subst h
      have h1 : ¬ (i ≤ i + n ∧ i + n < i + n) := by omega
      have h2 : i ≤ i + n ∧ i + n < i + (n + 1) := by omega
      simp only [decide_eq_false h1, decide_eq_true h2, Bool.false_and, Bool.false_xor, decide_true, Bool.and_true, Bool.true_and, Nat.add_sub_cancel_left]
    · have h2 : (i ≤ j ∧ j < i + (n + 1)) ↔ (i ≤ j ∧ j < i + n) := by omega
      simp only [h2, decide_eq_false h, Bool.and_false, Bool.xor_false]
theorem pO_xs (a b : Nat → Bool) (j : Nat) : ∀ n, pO a b n j = xs n fun i => a i && xs 128 fun k => b k && decide (j = i + k)
  | 0 => rfl
  | n + 1 => by
    rw [xs_succ, ← pO_xs a b j n, xs_delta b n j 128]
    show (pO a b n j ^^ (decide (n ≤ j ∧ j < n + 128) && (a n && b (j - n)))) = _
    cases a n <;> cases decide (n ≤ j ∧ j < n + 128) <;> simp
def D (m j : Nat) : Bool := rS (fun j => decide (j = m)) 127 j
theorem product_xs (a b : Nat → Bool) (j : Nat) : rS (pO a b 128) 127 j = xs 128 fun i => a i && xs 128 fun k => b k && D (i + k) j := by
  have e : pO a b 128 = fun j => xs 128 fun i => a i && xs 128 fun k => b k && decide (j = i + k) := funext fun j => pO_xs a b j 128
  rw [e, rS_xs]
  refine xs_congr fun i _ => ?_
  rw [rS_and]
  refine congrArg (fun z => a i && z) ?_
  rw [rS_xs]
  refine xs_congr fun k _ => ?_
  rw [rS_and]
  rfl
/-! The program's. -/
theorem mulS_snd (a b : E) : ∀ n, (mulS a b n).2 = stepN n b
  | 0 => rfl
  | n + 1 => by simp only [mulS, stepN]; rw [mulS_snd a b n]
theorem mulS_bit (a b : E) (j : Nat) : ∀ n, (mulS a b n).1.getMsbD j = xs n fun i => a.getMsbD i && (stepN i b).getMsbD j
  | 0 => by simp [mulS, xs]
  | n + 1 => by
    simp only [mulS, xs]
    rw [← mulS_bit a b j n, mulS_snd]
    cases a.getMsbD n
    · simp
    · simp
theorem step_xor (x y : E) : step (x ^^^ y) = step x ^^^ step y := by
  unfold step
  rw [BitVec.getLsbD_xor, BitVec.ushiftRight_xor_distrib]
  cases x.getLsbD 0 <;> cases y.getLsbD 0 <;> simp
  · rw [BitVec.xor_assoc]
  · rw [BitVec.xor_assoc, BitVec.xor_assoc, BitVec.xor_comm (y >>> 1)]
  · generalize x >>> 1 = u
    generalize y >>> 1 = v
    rw [BitVec.xor_assoc u, BitVec.xor_comm v, ← BitVec.xor_assoc _ _ v, BitVec.xor_self, BitVec.zero_xor]
theorem step_zero : step 0#128 = 0#128 := by decide
theorem stepN_xor (x y : E) : ∀ n, stepN n (x ^^^ y) = stepN n x ^^^ stepN n y
  | 0 => rfl
  | n + 1 => by simp only [stepN]; rw [stepN_xor x y n, step_xor]
theorem stepN_zero : ∀ n, stepN n 0#128 = 0#128
  | 0 => rfl
  | n + 1 => by simp only [stepN]; rw [stepN_zero n, step_zero]
theorem stepN_xs (f : Nat → E) (m : Nat) : ∀ n, stepN m (xsB n f) = xsB n fun i => stepN m (f i)
  | 0 => stepN_zero m
  | n + 1 => by simp only [xsB]; rw [stepN_xor, stepN_xs f m n]
theorem xsB_bit (f : Nat → E) (j : Nat) : ∀ n, (xsB n f).getMsbD j = xs n fun i => (f i).getMsbD j
  | 0 => by simp [xsB, xs]
  | n + 1 => by simp only [xsB, xs]; rw [BitVec.getMsbD_xor, xsB_bit f j n]
theorem unitE_bit {k j : Nat} (hk : k < 128) (hj : j < 128) : (unitE k).getMsbD j = decide (j = k) := by
  have h : ∀ k, k < 128 → ∀ j, j < 128 → (unitE k).getMsbD j = decide (j = k) := by decide +kernel
  exact h k hk j hj
theorem units (b : E) : b = xsB 128 fun k => if b.getMsbD k then unitE k else 0#128 := by
  apply BitVec.eq_of_getMsbD_eq
  intro j hj
  rw [xsB_bit]
  have e : (xs 128 fun i => (if b.getMsbD i then unitE i else 0#128).getMsbD j) = xs 128 fun i => b.getMsbD i && decide (j = 0 + i) := by
    refine xs_congr fun i hi => ?_
    rw [Nat.zero_add]
    split
    · rename_i h; rw [unitE_bit hi hj, h]; rfl
    · rename_i h; simp at h; rw [h]; simp
  rw [e, xs_delta]
  have h1 : 0 ≤ j ∧ j < 0 + 128 := by omega
  simp only [decide_eq_true h1, Bool.true_and, Nat.sub_zero]
theorem step_unit : ∀ k, k < 127 → step (unitE k) = unitE (k + 1) := by decide +kernel
theorem stepN_add (x : E) (n : Nat) : ∀ m, stepN (m + n) x = stepN m (stepN n x)
  | 0 => by rw [Nat.zero_add]; rfl
  | m + 1 => by rw [show m + 1 + n = m + n + 1 by omega]; simp only [stepN]; rw [stepN_add x n m]
theorem unitE_T : ∀ k, k < 128 → unitE k = stepN k (unitE 0)
  | 0, _ => rfl
  | k + 1, h => by simp only [stepN]; rw [← unitE_T k (by omega), step_unit k (by omega)]
theorem mul_xs (a b : E) (j : Nat) (hj : j < 128) : (mul a b).getMsbD j = xs 128 fun i => a.getMsbD i && xs 128 fun k => b.getMsbD k && (stepN (i + k) (unitE 0)).getMsbD j := by
  unfold mul
  rw [mulS_bit]
  refine xs_congr fun i _ => ?_
  refine congrArg (fun z => a.getMsbD i && z) ?_
  rw [show stepN i b = stepN i (xsB 128 fun k => if b.getMsbD k then unitE k else 0#128) from congrArg _ (units b), stepN_xs, xsB_bit]
  refine xs_congr fun k hk => ?_
  split
  · rename_i h; rw [stepN_add, ← unitE_T k hk, h]; rfl
  · rename_i h; simp at h; rw [h, stepN_zero]; simp
/-! What is left of each power. -/
theorem cB_bit : ∀ m, m < 127 → ∀ j, j < 256 → (cB m).getMsbD j = cAt m j := by decide +kernel
theorem unitP_bit : ∀ k, k < 256 → ∀ j, j < 256 → (unitP k).getMsbD j = decide (j = k) := by decide +kernel
theorem RS_bit (X : BitVec 256) (P : Nat → Bool) (h : ∀ j, j < 256 → X.getMsbD j = P j) : ∀ m, m ≤ 127 → ∀ j, j < 256 → (RS X m).getMsbD j = rS P m j
  | 0, _, j, hj => h j hj
  | m + 1, hm, j, hj => by
    simp only [RS, rS]
    rw [← RS_bit X P h m (by omega) j hj, ← RS_bit X P h m (by omega) (254 - m) (by omega), ← cB_bit m (by omega) j hj]
    cases (RS X m).getMsbD (254 - m) <;> simp
def topE (X : BitVec 256) : E := (X >>> 128).setWidth 128
theorem topE_bit (X : BitVec 256) {j : Nat} (hj : j < 128) : (topE X).getMsbD j = X.getMsbD j := by
  unfold topE
  simp only [BitVec.getMsbD, BitVec.getLsbD_setWidth, BitVec.getLsbD_ushiftRight]
  have h1 : 128 - 1 - j < 128 := by omega
  have h2 : j < 256 := by omega
  simp only [hj, h1, h2, decide_true, Bool.true_and]
  congr 1
  omega
theorem next_T : ∀ m, m < 254 → topE (RS (unitP (m + 1)) 127) = step (topE (RS (unitP m) 127)) := by decide +kernel
theorem zero_T : topE (RS (unitP 0) 127) = unitE 0 := by decide +kernel
theorem all_T : ∀ m, m < 255 → topE (RS (unitP m) 127) = stepN m (unitE 0)
  | 0, _ => zero_T
  | m + 1, h => by simp only [stepN]; rw [next_T m (by omega), all_T m (by omega)]
theorem D_T {m j : Nat} (hm : m < 255) (hj : j < 128) : D m j = (stepN m (unitE 0)).getMsbD j := by
  rw [← all_T m hm, topE_bit _ hj, RS_bit (unitP m) (fun j => decide (j = m)) (fun j hj => unitP_bit m (by omega) j hj) 127 (by omega) j (by omega)]
  rfl
/-- The document's product is the program's. -/
theorem product_eq (a b : E) (j : Nat) (hj : j < 128) : rS (pO a.getMsbD b.getMsbD 128) 127 j = (mul a b).getMsbD j := by
  rw [product_xs, mul_xs a b j hj]
  refine xs_congr fun i hi => congrArg (fun z => a.getMsbD i && z) ?_
  refine xs_congr fun k hk => congrArg (fun z => b.getMsbD k && z) ?_
  exact D_T (by omega) hj
end Gcm
end Go.Proofs.Ytndlhhhebijknaa
end

section
/-
  Elements as words and as bytes. Plain. No condition.
-/
namespace Go.Proofs.Ytndlhhhebijknaa
set_option linter.unusedVariables false
namespace Gcm

/-! Elements as two words, as sixteen bytes. -/
def hi (e : E) : BitVec 64 := (e >>> 64).setWidth 64
def lo (e : E) : BitVec 64 := e.setWidth 64
def mk (h l : BitVec 64) : E := h ++ l
theorem hi_mk (h l : BitVec 64) : hi (mk h l) = h := by
  unfold hi mk
  apply BitVec.eq_of_getLsbD_eq
  intro i hi
  rw [BitVec.getLsbD_setWidth, BitVec.getLsbD_ushiftRight]
  have : (h ++ l : BitVec (64 + 64)).getLsbD (64 + i) = h.getLsbD i := by rw [BitVec.getLsbD_append]; simp
  refine (congrArg _ this).trans ?_
  simp [hi]
theorem lo_mk (h l : BitVec 64) : lo (mk h l) = l := by
  unfold lo mk
  apply BitVec.eq_of_getLsbD_eq
  intro i hi
  rw [BitVec.getLsbD_setWidth]
  have : (h ++ l : BitVec (64 + 64)).getLsbD i = l.getLsbD i := by rw [BitVec.getLsbD_append]; simp [hi]
  refine (congrArg _ this).trans ?_
  simp [hi]
theorem hi_xor (x y : E) : hi (x ^^^ y) = hi x ^^^ hi y := by
  unfold hi; rw [BitVec.ushiftRight_xor_distrib, BitVec.setWidth_xor]
theorem lo_xor (x y : E) : lo (x ^^^ y) = lo x ^^^ lo y := by
  unfold lo; rw [BitVec.setWidth_xor]
theorem hi_shl (e : E) : hi (e <<< 1) = hi e <<< 1 ||| lo e >>> 63 := by
  unfold hi lo
  apply BitVec.eq_of_getLsbD_eq
  intro i hi
  simp only [BitVec.getLsbD_setWidth, BitVec.getLsbD_ushiftRight, BitVec.getLsbD_or, BitVec.getLsbD_shiftLeft, hi, decide_true, Bool.true_and]
  by_cases h : i = 0
  · subst h; simp
  · have h1 : ¬ 64 + i < 1 := by omega
    have h2 : ¬ i < 1 := by omega
    have h3 : ¬ 63 + i < 64 := by omega
    have h4 : i - 1 < 64 := by omega
    simp only [h1, h2, h3, h4, show 64 + i < 128 by omega, decide_false, Bool.not_false, Bool.false_and, Bool.or_false, decide_true, Bool.true_and]
    congr 1
    omega
theorem lo_shl (e : E) : lo (e <<< 1) = lo e <<< 1 := by
  unfold lo
  apply BitVec.eq_of_getLsbD_eq
  intro i hi
  simp [hi]
theorem hi_shr (e : E) : hi (e >>> 1) = hi e >>> 1 := by
  unfold hi
  apply BitVec.eq_of_getLsbD_eq
  intro i hi
  simp only [BitVec.getLsbD_setWidth, BitVec.getLsbD_ushiftRight, hi, decide_true, Bool.true_and]
  by_cases h : 1 + i < 64
  · simp only [h, decide_true, Bool.true_and]; congr 1; omega
  · simp only [h, decide_false, Bool.false_and]; exact BitVec.getLsbD_of_ge _ _ (by omega)
theorem lo_shr (e : E) : lo (e >>> 1) = lo e >>> 1 ||| hi e <<< 63 := by
  unfold hi lo
  apply BitVec.eq_of_getLsbD_eq
  intro i hi
  simp only [BitVec.getLsbD_setWidth, BitVec.getLsbD_ushiftRight, BitVec.getLsbD_or, BitVec.getLsbD_shiftLeft, hi, decide_true, Bool.true_and]
  by_cases h : i < 63
  · simp [h, show 1 + i < 64 by omega]
  · obtain rfl : i = 63 := by omega
    simp
theorem top_bit (e : E) : hi e >>> 63 = 1#64 ↔ e.getMsbD 0 = true := by
  constructor
  · intro h
    have := congrArg (fun x : BitVec 64 => x.getLsbD 0) h
    simpa [hi, BitVec.getMsbD] using this
  · intro h
    apply BitVec.eq_of_getLsbD_eq
    intro i hi
    by_cases h0 : i = 0
    · subst h0; simpa [Gcm.hi, BitVec.getMsbD] using h
    · have h1 : ¬ 63 + i < 64 := by omega
      rw [BitVec.getLsbD_ushiftRight, BitVec.getLsbD_of_ge _ _ (by omega)]
      simp [h0]
theorem top_shl (e : E) (k : Nat) : hi (e <<< k) >>> 63 = 1#64 ↔ e.getMsbD k = true := by
  rw [top_bit, BitVec.getMsbD_shiftLeft]
  simp
theorem low_bit (e : E) : lo e &&& 1#64 = 1#64 ↔ e.getLsbD 0 = true := by
  constructor
  · intro h
    have := congrArg (fun x : BitVec 64 => x.getLsbD 0) h
    simpa [lo] using this
  · intro h
    apply BitVec.eq_of_getLsbD_eq
    intro i hi
    by_cases h0 : i = 0
    · subst h0; simpa [lo] using h
    · simp [h0]
theorem hi_R : hi 299076299051606071403356588563077529600#128 = 16212958658533785600#64 := by decide
theorem lo_R : lo 299076299051606071403356588563077529600#128 = 0#64 := by decide
theorem hi_step1 {e : E} (h : e.getLsbD 0 = true) : hi (step e) = hi e >>> 1 ^^^ 16212958658533785600#64 := by
  unfold step; rw [if_pos h, hi_xor, hi_R, hi_shr]
theorem hi_step0 {e : E} (h : ¬ e.getLsbD 0 = true) : hi (step e) = hi e >>> 1 := by
  unfold step; rw [if_neg h, hi_shr]
theorem lo_step (e : E) : lo (step e) = lo e >>> 1 ||| hi e <<< 63 := by
  unfold step
  split
  · rw [lo_xor, lo_R, lo_shr, BitVec.xor_zero]
  · rw [lo_shr]
/-! Bytes. -/
def ldS (b : Nat → BitVec 8) (o : Nat) : Nat → BitVec 64
  | 0 => 0#64
  | k + 1 => ldS b o k <<< 8 ||| (b (o + k)).setWidth 64
def toE (b : Nat → BitVec 8) : E := mk (ldS b 0 8) (ldS b 8 8)
def byE (e : E) (i : Nat) : BitVec 8 := if i < 8 then (hi e >>> (8 * (7 - i))).setWidth 8 else (lo e >>> (8 * (15 - i))).setWidth 8
theorem ldS_congr {b b' : Nat → BitVec 8} {o : Nat} : ∀ {k : Nat}, (∀ i, i < k → b (o + i) = b' (o + i)) → ldS b o k = ldS b' o k
  | 0, _ => rfl
  | k + 1, h => by simp only [ldS]; rw [ldS_congr (fun i hi => h i (by omega)), h k (by omega)]
theorem toE_congr {b b' : Nat → BitVec 8} (h : ∀ i, i < 16 → b i = b' i) : toE b = toE b' := by
  unfold toE
  rw [ldS_congr (b := b) (b' := b') (k := 8) (fun i hi => h _ (by omega)), ldS_congr (b := b) (b' := b') (o := 8) (k := 8) (fun i hi => h _ (by omega))]
theorem ldS_bit (b : Nat → BitVec 8) (o : Nat) : ∀ k, k ≤ 8 → ∀ t, t < 64 → (ldS b o k).getLsbD t = (decide (t / 8 < k) && (b (o + (k - 1 - t / 8))).getLsbD (t % 8))
  | 0, _, t, _ => by simp [ldS]
  | k + 1, hk, t, ht => by
    simp only [ldS]
    rw [BitVec.getLsbD_or, BitVec.getLsbD_shiftLeft, BitVec.getLsbD_setWidth]
    by_cases h : t < 8
    · have h1 : t / 8 = 0 := by omega
      have h2 : t % 8 = t := by omega
      simp [h, h1, h2, ht]
    · have h1 : (t - 8) / 8 = t / 8 - 1 := by omega
      have h2 : (t - 8) % 8 = t % 8 := by omega
      rw [ldS_bit b o k (by omega) (t - 8) (by omega), h1, h2, BitVec.getLsbD_of_ge (b (o + k)) t (by omega)]
      have h3 : (t / 8 - 1 < k) ↔ (t / 8 < k + 1) := by omega
      have h4 : k - 1 - (t / 8 - 1) = k + 1 - 1 - t / 8 := by omega
      simp [h, ht, h3, h4]
theorem toE_bit (b : Nat → BitVec 8) {j : Nat} (hj : j < 128) : (toE b).getMsbD j = (b (j / 8)).getMsbD (j % 8) := by
  unfold toE mk
  simp only [BitVec.getMsbD, BitVec.getLsbD_append]
  have h8 : j % 8 < 8 := by omega
  simp only [hj, h8, decide_true, Bool.true_and]
  by_cases h : j < 64
  · have h1 : ¬ 64 + 64 - 1 - j < 64 := by omega
    rw [if_neg h1, ldS_bit b 0 8 (by omega) _ (by omega)]
    have h2 : (64 + 64 - 1 - j - 64) / 8 < 8 := by omega
    rw [decide_eq_true h2, Bool.true_and, show 0 + (8 - 1 - (64 + 64 - 1 - j - 64) / 8) = j / 8 by omega, show (64 + 64 - 1 - j - 64) % 8 = 8 - 1 - j % 8 by omega]
  · have h1 : 64 + 64 - 1 - j < 64 := by omega
    rw [if_pos h1, ldS_bit b 8 8 (by omega) _ (by omega)]
    have h2 : (64 + 64 - 1 - j) / 8 < 8 := by omega
    rw [decide_eq_true h2, Bool.true_and, show 8 + (8 - 1 - (64 + 64 - 1 - j) / 8) = j / 8 by omega, show (64 + 64 - 1 - j) % 8 = 8 - 1 - j % 8 by omega]
theorem byE_bit (e : E) {i t : Nat} (hi' : i < 16) (ht : t < 8) : (byE e i).getMsbD t = e.getMsbD (8 * i + t) := by
  unfold byE hi lo
  have h128 : 8 * i + t < 128 := by omega
  by_cases h : i < 8
  · simp only [if_pos h, BitVec.getMsbD, BitVec.getLsbD_setWidth, BitVec.getLsbD_ushiftRight, ht, h128, show 8 - 1 - t < 8 by omega, show 8 * (7 - i) + (8 - 1 - t) < 64 by omega, decide_true, Bool.true_and]
    congr 1
    omega
  · simp only [if_neg h, BitVec.getMsbD, BitVec.getLsbD_setWidth, BitVec.getLsbD_ushiftRight, ht, h128, show 8 - 1 - t < 8 by omega, show 8 * (15 - i) + (8 - 1 - t) < 64 by omega, decide_true, Bool.true_and]
    congr 1
    omega
theorem byE_toE (b : Nat → BitVec 8) {i : Nat} (hi : i < 16) : byE (toE b) i = b i := by
  apply BitVec.eq_of_getMsbD_eq
  intro t ht
  rw [byE_bit _ hi ht, toE_bit _ (by omega), show (8 * i + t) / 8 = i by omega, show (8 * i + t) % 8 = t by omega]
theorem toE_byE (e : E) : toE (byE e) = e := by
  apply BitVec.eq_of_getMsbD_eq
  intro j hj
  rw [toE_bit _ hj, byE_bit _ (by omega) (by omega), show 8 * (j / 8) + j % 8 = j by omega]
theorem toE_xor (a b : Nat → BitVec 8) : toE (fun i => a i ^^^ b i) = toE a ^^^ toE b := by
  apply BitVec.eq_of_getMsbD_eq
  intro j hj
  rw [BitVec.getMsbD_xor, toE_bit _ hj, toE_bit _ hj, toE_bit _ hj, BitVec.getMsbD_xor]
end Gcm
end Go.Proofs.Ytndlhhhebijknaa
end

section
/-
  The program's field of 2^128. No condition.
-/
namespace Go.Proofs.Ytndlhhhebijknaa
set_option linter.unusedVariables false
namespace Sx
open Aes Gcm

/-- An element: its two words. -/
abbrev elt2 (h l : BitVec 64) : List Seg := [.one (.w64 h), .one (.w64 l)]
abbrev eltA (e : E) : SA := .agg (elt2 (hi e) (lo e))
theorem fn_load (b : Nat → BitVec 8) : Fn Try.prog tds 53 [] [blk b] (fun _ => True) (fun x hs => x = .a (eltA (toE b)) ∧ hs = []) := by
  refine fn_of_body tds_ok follows_ Try.func53 rfl (t := .a (blk b) :: anys 28) rfl (fun w r0 hr _ => ?_)
  obtain rfl : r0 = [] := List.eq_nil_of_length_eq_zero hr
  refine ⟨rfl, .inl ⟨Nat, fun k => ⟨[.any, .a (.c (.p 0 0 0)), .a (.c (.p 1 0 0)), .a (.c (.p 2 0 0)), .any, .a (.c (.int .i64 (↑k))), .any, .any, .any, .any, .any, .any, .any, .any, .any, .any, .any, .any, .any, .any, .any, .any, .any, .any, .any, .any, .any, .any, .any], [[.row 16 fun i => .w8 (b i)], elt2 0 0, elt2 (ldS b 0 k) (ldS b 8 k)]⟩, fun k => k ≤ 8, fun k => 8 - k, ⟨0, [0, 1, 2], ⟨⟨rfl, rfl, rfl⟩, ?_⟩, by omega⟩, fun k hk => ⟨fun h => ?_, fun h => ?_⟩⟩⟩
  · (repeat first | exact trivial | refine ⟨rfl, ?_⟩ | refine ⟨fun _ _ => ⟨rfl, trivial⟩, ?_⟩ | refine ⟨by omega, ?_⟩)
  · have hlt : (k : Int) < 8 := of_decide_eq_true h
    refine ⟨none, [], [(0, true), (1, true), (2, true), (3, true), (4, true), (5, true), (6, true), (7, true), (8, true)], [9], by kernel_rfl, ?_⟩
    (repeat first | refine ⟨by omega, ?_⟩ | refine ⟨by decide, ?_⟩ | refine ⟨idx8 _, ?_⟩ | refine ⟨lt8 (Nat.le_refl _) _, ?_⟩)
    refine ⟨rfl, none, [], [(0, true), (1, true), (2, true), (3, true), (4, true), (5, true), (6, true), (7, true), (8, true), (9, true)], [10], by kernel_rfl, ?_⟩
    (repeat first | refine ⟨by omega, ?_⟩ | refine ⟨by decide, ?_⟩ | refine ⟨idx8 _, ?_⟩ | refine ⟨lt8 (Nat.le_refl _) _, ?_⟩)
    refine ⟨rfl, ⟨by omega, by omega⟩, k + 1, [0, 1, 2], ⟨⟨rfl, rfl, rfl⟩, ?_⟩, by dsimp only; omega, by dsimp only; omega⟩
    have e0 : (k : Int).toNat + 0 = 0 + k := by omega
    have e1 : (8 + (k : Int)).toNat + 0 = 8 + k := by omega
    refine ⟨rfl, rfl, rfl, rfl, rfl, fun j hj => ⟨rfl, trivial⟩, rfl, rfl, ?_, ?_, trivial⟩
    · show _ <<< 8 ||| (b ((k : Int).toNat + 0)).setWidth 64 = _
      rw [e0]; rfl
    · show _ <<< 8 ||| (b ((8 + (k : Int)).toNat + 0)).setWidth 64 = _
      rw [e1]; rfl
  · obtain rfl : k = 8 := by have : ¬ (k : Int) < 8 := of_decide_eq_false h; have hk : k ≤ 8 := hk; omega
    exact ⟨rfl, .a (eltA (toE b)), [], ⟨[], ⟨rfl, rfl, rfl⟩, rfl, (hi_mk _ _).symm, (lo_mk _ _).symm, trivial⟩, rfl, rfl⟩
theorem sh7 : ∀ k : Nat, k < 8 → (8#64 * BitVec.ofInt 64 (7 - (k : Int))).toNat = 8 * (7 - k) := by decide
theorem fn_store (e : E) : Fn Try.prog tds 74 [] [eltA e] (fun _ => True) (fun x hs => x = .a (blk (byE e)) ∧ hs = []) := by
  refine fn_of_body tds_ok follows_ Try.func74 rfl (t := .a (eltA e) :: anys 30) rfl (fun w r0 hr _ => ?_)
  obtain rfl : r0 = [] := List.eq_nil_of_length_eq_zero hr
  refine ⟨rfl, .inl ⟨Nat, fun k => ⟨[.any, .a (.c (.p 0 0 0)), .a (.c (.p 1 0 0)), .a (.c (.p 2 0 0)), .any, .a (.c (.int .i64 (↑k))), .any, .any, .any, .any, .any, .any, .any, .any, .any, .any, .any, .any, .any, .any, .any, .any, .any, .any, .any, .any, .any, .any, .any, .any, .any], [elt2 (hi e) (lo e), [.row 16 fun _ => .w8 0], [.row 16 fun i => .w8 (if i % 8 < k then byE e i else 0#8)]]⟩, fun k => k ≤ 8, fun k => 8 - k, ⟨0, [0, 1, 2], ⟨⟨rfl, rfl, rfl⟩, ?_⟩, by omega⟩, fun k hk => ⟨fun h => ?_, fun h => ?_⟩⟩⟩
  · refine ⟨rfl, rfl, rfl, rfl, rfl, rfl, rfl, fun j hj => ⟨rfl, trivial⟩, rfl, fun j hj => eqC_w8 (congrArg SC.w8 ?_), trivial⟩
    rw [if_neg (by omega)]; rfl
  · have hlt : (k : Int) < 8 := of_decide_eq_true h
    have hl : k < 8 := by omega
    (repeat first | refine ⟨by omega, ?_⟩ | refine ⟨by decide, ?_⟩ | refine ⟨idx8 _, ?_⟩ | refine ⟨lt8 (Nat.le_refl _) _, ?_⟩)
    refine ⟨rfl, ?_⟩
    (repeat first | refine ⟨by omega, ?_⟩ | refine ⟨by decide, ?_⟩ | refine ⟨idx8 _, ?_⟩ | refine ⟨lt8 (Nat.le_refl _) _, ?_⟩)
    refine ⟨rfl, ⟨by omega, by omega⟩, k + 1, [0, 1, 2], ⟨⟨rfl, rfl, rfl⟩, ?_⟩, by dsimp only; omega, by dsimp only; omega⟩
    refine ⟨rfl, rfl, rfl, rfl, rfl, rfl, rfl, fun j hj => ⟨rfl, trivial⟩, rfl, fun j hj => eqC_w8 ?_, trivial⟩
    have e0 : (k : Int).toNat + 0 = k := by omega
    have e1 : (8 + (k : Int)).toNat + 0 = 8 + k := by omega
    rw [e0, e1, sh7 k hl]
    unfold upd
    by_cases h1 : j = 8 + k
    · rw [if_pos h1, if_pos (by omega)]
      unfold byE
      rw [if_neg (by omega), show 15 - j = 7 - k by omega]
    · rw [if_neg h1]
      by_cases h2 : j = k
      · rw [if_pos h2, if_pos (by omega)]
        unfold byE
        rw [if_pos (by omega), h2]
      · rw [if_neg h2]
        have : j % 8 < k ↔ j % 8 < k + 1 := by omega
        simp only [this]
  · obtain rfl : k = 8 := by have : ¬ (k : Int) < 8 := of_decide_eq_false h; have hk : k ≤ 8 := hk; omega
    exact ⟨by omega, rfl, rfl, by omega, .a (blk (byE e)), [], ⟨[], ⟨rfl, rfl, rfl⟩, rfl, rfl, fun j hj => eqC_w8 (by simp [show j % 8 < 8 by omega]), trivial⟩, rfl, rfl⟩
theorem hi0 : hi 0#128 = 0#64 := by decide
theorem lo0 : lo 0#128 = 0#64 := by decide
theorem shl_hi (a : E) (k : Nat) : hi (a <<< k) <<< 1 ||| lo (a <<< k) >>> 63 = hi (a <<< (k + 1)) := by rw [BitVec.shiftLeft_add, hi_shl]
theorem shl_lo (a : E) (k : Nat) : lo (a <<< k) <<< 1 = lo (a <<< (k + 1)) := by rw [BitVec.shiftLeft_add, lo_shl]
theorem mulS1 {a b : E} {k : Nat} (h : a.getMsbD k = true) : (mulS a b (k + 1)).1 = (mulS a b k).1 ^^^ (mulS a b k).2 := by
  simp only [mulS]; rw [if_pos h]
theorem mulS0 {a b : E} {k : Nat} (h : ¬ a.getMsbD k = true) : (mulS a b (k + 1)).1 = (mulS a b k).1 := by
  simp only [mulS]; rw [if_neg h]
set_option maxRecDepth 20000 in
theorem fn_gtimes (a b : E) : Fn Try.prog tds 75 [] [eltA a, eltA b] (fun _ => True) (fun x hs => x = .a (eltA (mul a b)) ∧ hs = []) := by
  refine fn_of_body tds_ok follows_ Try.func75 rfl (t := .a (eltA a) :: .a (eltA b) :: anys 60) rfl (fun w r0 hr _ => ?_)
  obtain rfl : r0 = [] := List.eq_nil_of_length_eq_zero hr
  refine ⟨rfl, rfl, .inl ⟨Nat, fun k => ⟨[.any, .any, .a (.c (.p 0 0 0)), .a (.c (.p 1 0 0)), .a (.c (.p 2 0 0)), .a (.c (.p 3 0 0)), .any, .any, .a (.c (.int .i64 (↑k))), .any, .any, .any, .any, .any, .any, .any, .any, .any, .any, .any, .any, .any, .any, .any, .any, .any, .any, .any, .any, .any, .any, .any, .any, .any, .any, .any, .any, .any, .any, .any, .any, .any, .any, .any, .any, .any, .any, .any, .any, .any, .any, .any, .any, .any, .any, .any, .any, .any, .any, .any, .any, .any], [elt2 (hi (a <<< k)) (lo (a <<< k)), elt2 (hi (mulS a b k).2) (lo (mulS a b k).2), elt2 0 0, elt2 (hi (mulS a b k).1) (lo (mulS a b k).1)]⟩, fun k => k ≤ 128, fun k => 128 - k, ⟨0, [0, 1, 2, 3], ⟨⟨rfl, rfl, rfl⟩, ?_⟩, by omega⟩, fun k hk => ⟨fun h => ?_, fun h => ?_⟩⟩⟩
  · have e : a <<< 0 = a := BitVec.shiftLeft_zero _
    refine ⟨rfl, rfl, rfl, rfl, rfl, ?_, ?_, rfl, rfl, rfl, rfl, hi0.symm, lo0.symm, trivial⟩ <;> rw [e]
  · have hlt : (k : Int) < 128 := of_decide_eq_true h
    by_cases hb : a.getMsbD k = true
    all_goals by_cases ho : (mulS a b k).2.getLsbD 0 = true
    all_goals
      have e1 := (top_shl a k)
      have e2 := low_bit (mulS a b k).2
      first
        | (have e3 : decide (hi (a <<< k) >>> 63 = 1#64) = true := decide_eq_true (e1.2 hb); clear e1)
        | (have e3 : decide (hi (a <<< k) >>> 63 = 1#64) = false := decide_eq_false (mt e1.1 hb); clear e1)
      first
        | (have e4 : decide (lo (mulS a b k).2 &&& 1#64 = 1#64) = true := decide_eq_true (e2.2 ho); clear e2)
        | (have e4 : decide (lo (mulS a b k).2 &&& 1#64 = 1#64) = false := decide_eq_false (mt e2.1 ho); clear e2)
    all_goals
      (repeat first
        | refine ⟨fun _ => ?_, fun h => absurd h (by rw [e3]; decide)⟩
        | refine ⟨fun h => absurd h (by rw [e3]; decide), fun _ => ?_⟩
        | refine ⟨fun _ => ?_, fun h => absurd h (by rw [e4]; decide)⟩
        | refine ⟨fun h => absurd h (by rw [e4]; decide), fun _ => ?_⟩
        | refine ⟨rfl, ?_⟩)
      refine ⟨⟨by omega, by omega⟩, k + 1, [0, 1, 2, 3], ⟨⟨rfl, rfl, rfl⟩, rfl, rfl, rfl, rfl, rfl, shl_hi a k, shl_lo a k, ?_, ?_, rfl, rfl, ?_, ?_, trivial⟩, by dsimp only; omega, by dsimp only; omega⟩
      · first
          | exact (hi_step1 ho).symm
          | exact (hi_step0 ho).symm
      · exact (lo_step _).symm
      · first
          | (rw [mulS1 hb, hi_xor])
          | (rw [mulS0 hb])
      · first
          | (rw [mulS1 hb, lo_xor])
          | (rw [mulS0 hb])
  · obtain rfl : k = 128 := by have : ¬ (k : Int) < 128 := of_decide_eq_false h; have hk : k ≤ 128 := hk; omega
    exact ⟨rfl, .a (eltA (mul a b)), [], ⟨[], ⟨rfl, rfl, rfl⟩, rfl, rfl, rfl, trivial⟩, rfl, rfl⟩
end Sx
end Go.Proofs.Ytndlhhhebijknaa
end

section
/-
  The program's blocks and keys: names for what comes out, nil ones. No condition.
-/
namespace Go.Proofs.Ytndlhhhebijknaa
set_option linter.unusedVariables false
namespace Sx
open Aes

theorem nthC_rep {x : SC} : ∀ {n j : Nat}, j < n → nthC (List.replicate n x) j = x
  | n + 1, 0, _ => rfl
  | n + 1, j + 1, h => nthC_rep (n := n) (j := j) (by omega)
/-- A key's block; its tables' name here. -/
abbrev keyD (i : Nat) (K : Nat → BitVec 8) : List Seg := [.one (.p i 0 0), .row 176 (fun i => .w8 (K i))]
theorem fn_key' (d : BitVec 32) (b : Nat → BitVec 8) (n : Int) (key K : Nat → BitVec 8) (hK : pKeys key = K) (hd : d = 0#32 ∨ d = 1#32 ∧ b = boxes) :
    Fn Try.prog tds 52 [tabs d 0 b n] [.c (.p 0 0 0), blk key] (fun _ => True) (fun x hs => x = .a (.c (.p 1 0 0)) ∧ hs = [tabs 1 0 boxes n, keyC K]) := by
  subst hK; exact fn_key d b n key hd
theorem fn_turn' (n : Int) (key b K R : Nat → BitVec 8) (hK : pKeys key = K) (hR : pTurn key b = R) (hn : -9223372036854775808 ≤ n + 1 ∧ n + 1 ≤ 9223372036854775807) :
    Fn Try.prog tds 54 [tabs 1 0 boxes n, keyC K] [.c (.p 1 0 0), blk b] (fun _ => True) (fun x hs => x = .a (blk R) ∧ hs = [tabs 1 0 boxes (n + 1), keyC K]) := by
  subst hK hR; exact fn_turn n key b hn
end Sx
end Go.Proofs.Ytndlhhhebijknaa
end

section
/-
  The program's sealer: counted blocks, bytes turned, what is gone over, marks. No condition.
-/
namespace Go.Proofs.Ytndlhhhebijknaa
set_option linter.unusedVariables false
namespace Gcm
open Sha
/-- A nonce and a counter. -/
def ctrB (nn : Nat → BitVec 8) (c : BitVec 32) (i : Nat) : BitVec 8 := if i < 12 then nn i else (c >>> (8 * (15 - i))).setWidth 8
def cryB (E : (Nat → BitVec 8) → Nat → BitVec 8) (nn : Nat → BitVec 8) (l : Bs) (j : Nat) : BitVec 8 := L l j ^^^ E (ctrB nn (BitVec.ofNat 32 (2 + j / 16))) (j % 16)
def cryL (E : (Nat → BitVec 8) → Nat → BitVec 8) (nn : Nat → BitVec 8) (l : Bs) : Bs := tab l.length (cryB E nn l)
@[simp] theorem cryL_len (E : (Nat → BitVec 8) → Nat → BitVec 8) (nn : Nat → BitVec 8) (l : Bs) : (cryL E nn l).length = l.length := tab_len _ _
def withB (E : (Nat → BitVec 8) → Nat → BitVec 8) (nn : Nat → BitVec 8) (i : Nat) : Nat → BitVec 8 := if i = 0 then fun _ => 0#8 else E (ctrB nn (BitVec.ofNat 32 (1 + (i + 15) / 16)))
/-- Sixteen bytes, filled up. -/
def partB (l : Bs) (k i : Nat) : BitVec 8 := if 16 * k + i < l.length then L l (16 * k + i) else 0#8
def hS (H e : E) (l : Bs) : Nat → E
  | 0 => e
  | k + 1 => mul (hS H e l k ^^^ toE (partB l k)) H
def hL (H e : E) (l : Bs) : E := hS H e l ((l.length + 15) / 16)
def lenE (a b : Nat) : E := mk (BitVec.ofNat 64 a * 8#64) (BitVec.ofNat 64 b * 8#64)
def tagE (H : E) (a h : Bs) : E := mul (hL H (hL H 0#128 a) h ^^^ lenE a.length h.length) H
def tagB (E : (Nat → BitVec 8) → Nat → BitVec 8) (H : Gcm.E) (nn : Nat → BitVec 8) (a h : Bs) (i : Nat) : BitVec 8 := byE (tagE H a h) i ^^^ E (ctrB nn 1#32) i
def sealL (E : (Nat → BitVec 8) → Nat → BitVec 8) (H : Gcm.E) (nn : Nat → BitVec 8) (a p : Bs) : Bs := cryL E nn p ++ tab 16 (tagB E H nn a (cryL E nn p))
theorem sealL_len (E : (Nat → BitVec 8) → Nat → BitVec 8) (H : Gcm.E) (nn : Nat → BitVec 8) (a p : Bs) : (sealL E H nn a p).length = p.length + 16 := by simp [sealL]
end Gcm
namespace Sx
open Aes Gcm Sha

abbrev nonA (nn : Nat → BitVec 8) : SA := .agg [.row 12 fun i => .w8 (nn i)]
abbrev sealC (i : Nat) (H : E) : List Seg := [.one (.p i 0 0), .one (.w64 (hi H)), .one (.w64 (lo H))]
theorem sh3 : ∀ k : Nat, k < 4 → (8#64 * BitVec.ofInt 64 (3 - (k : Int))).toNat = 8 * (15 - (12 + k)) := by decide
set_option maxRecDepth 20000 in
theorem fn_counted (cnt : Int) (key K : Nat → BitVec 8) (E : (Nat → BitVec 8) → Nat → BitVec 8) (hK : pKeys key = K) (hE : pTurn key = E) (H : Gcm.E) (nn : Nat → BitVec 8) (c : BitVec 32) (hn : 0 ≤ cnt ∧ cnt ≤ 1000000000) :
    Fn Try.prog tds 72 [tabs 1 0 boxes cnt, keyC K, sealC 1 H] [.c (.p 2 0 0), nonA nn, .c (.w32 c)] (fun _ => True) (fun x hs => x = .a (blk (E (ctrB nn c))) ∧ hs = [tabs 1 0 boxes (cnt + 1), keyC K, sealC 1 H]) := by
  refine fn_of_body tds_ok follows_ Try.func72 rfl (t := .a (.c (.p 2 0 0)) :: .a (nonA nn) :: .a (.c (.w32 c)) :: anys 29) rfl (fun w r0 hr _ => ?_)
  obtain ⟨x0, x1, x2, rfl⟩ := len3' hr
  refine ⟨rfl, none, [], [(0, true), (1, true)], [2], by kernel_rfl, ?_⟩
  (repeat first | refine ⟨by omega, ?_⟩ | refine ⟨by decide, ?_⟩ | refine ⟨idx8 _, ?_⟩ | refine ⟨lt8 (Nat.le_refl _) _, ?_⟩)
  refine .inl ⟨Nat, fun k => ⟨[.a (.c (.p 2 0 0)), .any, .a (.c (.w32 (c))), .any, .a (.c (.p 3 0 0)), .any, .a (.c (.p 4 0 0)), .a (.c (.p 5 0 0)), .any, .any, .any, .any, .a (.c (.int .i64 (↑k))), .any, .any, .any, .any, .any, .any, .any, .any, .any, .any, .any, .any, .any, .any, .any, .any, .any, .any, .any], [tabs 1 0 boxes cnt, keyC K, sealC 1 H, [.row 12 fun i => .w8 (nn i)], [.row 16 fun _ => .w8 0], [.row 16 fun i => .w8 (if i < 12 + k then ctrB nn c i else 0#8)]]⟩, fun k => k ≤ 4, fun k => 4 - k, ⟨0, [0, 1, 2, 3, 4, 5], ⟨⟨rfl, rfl, rfl⟩, ?_⟩, by omega⟩, fun k hk => ⟨fun h => ?_, fun h => ?_⟩⟩
  · (repeat first | exact trivial | refine ⟨rfl, ?_⟩ | refine ⟨fun _ _ => ⟨rfl, trivial⟩, ?_⟩ | refine ⟨fun _ _ => trivial, ?_⟩ | refine ⟨by omega, ?_⟩ | refine ⟨fun _ _ => eqC_winS, ?_⟩ | refine ⟨fun _ _ => eqC_winM, ?_⟩ | refine ⟨fun _ _ => eqC_winB, ?_⟩ | refine ⟨fun _ _ => eqC_selfB, ?_⟩ | refine ⟨fun _ _ => eqC_mpB, ?_⟩)
    refine ⟨fun j hj => eqC_w8 ?_, trivial⟩
    show updN _ _ _ _ _ = _
    unfold updN
    by_cases h : j < 12
    · rw [if_pos ⟨Nat.zero_le _, by show j < 0 + 12; omega⟩, if_pos (by omega)]
      unfold ctrB
      rw [if_pos h]
      rfl
    · rw [if_neg (by show ¬ (0 ≤ j ∧ j < 0 + 12); omega), if_neg (by omega)]
      rfl
  · have hlt : (k : Int) < 4 := of_decide_eq_true h
    have hl : k < 4 := by omega
    (repeat first | refine ⟨by omega, ?_⟩ | refine ⟨by decide, ?_⟩ | refine ⟨idx8 _, ?_⟩ | refine ⟨lt8 (Nat.le_refl _) _, ?_⟩)
    refine ⟨rfl, ⟨by omega, by omega⟩, k + 1, [0, 1, 2, 3, 4, 5], ⟨⟨rfl, rfl, rfl⟩, ?_⟩, by dsimp only; omega, by dsimp only; omega⟩
    (repeat first | exact trivial | refine ⟨rfl, ?_⟩ | refine ⟨fun _ _ => ⟨rfl, trivial⟩, ?_⟩ | refine ⟨fun _ _ => trivial, ?_⟩ | refine ⟨by omega, ?_⟩ | refine ⟨fun _ _ => eqC_winS, ?_⟩ | refine ⟨fun _ _ => eqC_winM, ?_⟩ | refine ⟨fun _ _ => eqC_winB, ?_⟩ | refine ⟨fun _ _ => eqC_selfB, ?_⟩ | refine ⟨fun _ _ => eqC_mpB, ?_⟩)
    refine ⟨fun j hj => eqC_w8 ?_, trivial⟩
    have e0 : (12 + (k : Int)).toNat + 0 = 12 + k := by omega
    rw [e0, sh3 k hl]
    refine (upd_w8 (g := fun i => .w8 (if i < 12 + (k + 1) then ctrB nn c i else 0#8)) ?_ (fun i hi => ?_) j)
    · refine congrArg SC.w8 ?_
      rw [if_pos (by omega)]
      unfold ctrB
      rw [if_neg (by omega)]
    · have : i < 12 + k ↔ i < 12 + (k + 1) := by omega
      simp only [this]
  · obtain rfl : k = 4 := by have : ¬ (k : Int) < 4 := of_decide_eq_false h; have hk : k ≤ 4 := hk; omega
    refine ⟨some [2,5], [], [(0, true), (1, true), (2, true), (3, true), (4, true), (5, false)], [6], by kernel_rfl, ?_⟩
    (repeat first | refine ⟨by omega, ?_⟩ | refine ⟨by decide, ?_⟩ | refine ⟨idx8 _, ?_⟩ | refine ⟨lt8 (Nat.le_refl _) _, ?_⟩)
    refine ⟨by kernel_rfl, call_same (fn_turn' cnt key (ctrB nn c) K (E (ctrB nn c)) hK (by rw [hE]) (by omega)) [0, 1] rfl ⟨rfl, rfl, rfl, fun j hj => eqC_w8 (congrArg SC.w8 (if_pos (by omega))), trivial⟩ (by (repeat first | exact trivial | refine ⟨rfl, ?_⟩ | refine ⟨fun _ _ => ⟨rfl, trivial⟩, ?_⟩ | refine ⟨fun _ _ => trivial, ?_⟩ | refine ⟨by omega, ?_⟩ | refine ⟨fun _ _ => eqC_winS, ?_⟩ | refine ⟨fun _ _ => eqC_winM, ?_⟩ | refine ⟨fun _ _ => eqC_winB, ?_⟩ | refine ⟨fun _ _ => eqC_selfB, ?_⟩ | refine ⟨fun _ _ => eqC_mpB, ?_⟩)) (fun _ _ => trivial) ?_⟩
    rintro x hs ⟨rfl, rfl⟩
    refine ⟨rfl, rfl, by omega, .a (blk (E (ctrB nn c))), [tabs 1 0 boxes (cnt + 1), keyC K, sealC 1 H], ⟨[0, 1, 2], ⟨rfl, rfl, rfl⟩, ?_⟩, rfl, rfl⟩
    (repeat first | exact trivial | refine ⟨rfl, ?_⟩ | refine ⟨fun _ _ => ⟨rfl, trivial⟩, ?_⟩ | refine ⟨fun _ _ => trivial, ?_⟩ | refine ⟨by omega, ?_⟩ | refine ⟨fun _ _ => eqC_winS, ?_⟩ | refine ⟨fun _ _ => eqC_winM, ?_⟩ | refine ⟨fun _ _ => eqC_winB, ?_⟩ | refine ⟨fun _ _ => eqC_selfB, ?_⟩ | refine ⟨fun _ _ => eqC_mpB, ?_⟩)
end Sx
end Go.Proofs.Ytndlhhhebijknaa
end

section
/-
  Forms laid bare by an equation. Over any program. No condition of its own.
-/
namespace Go.Proofs.Ytndlhhhebijknaa
set_option linter.unusedVariables false
namespace Sx

theorem frcN_of {n m : Nat} {k : Nat → Prop} (h : n = m) (hk : k m) : frcN n k := by subst h; exact hk
theorem frc_upd {f : Nat → SC} {o b : Nat} {x : SC} {k : SC → Prop} (h : b ≠ o) (hk : frcSC (f b) k) : frcSC (upd f o x b) k := by
  unfold upd; rw [if_neg h]; exact hk
end Sx
end Go.Proofs.Ytndlhhhebijknaa
end

section
/-
  The program's sealer: bytes turned; what is gone over. No condition.
-/
namespace Go.Proofs.Ytndlhhhebijknaa
set_option linter.unusedVariables false
namespace Sx
open Aes Gcm Sha

set_option maxRecDepth 20000 in
theorem fn_crypt (z : Bool) (N o n c : Nat) (l : Bs) (cnt : Int) (key K : Nat → BitVec 8) (E : (Nat → BitVec 8) → Nat → BitVec 8) (hK : pKeys key = K) (hE : pTurn key = E) (H : Gcm.E) (nn : Nat → BitVec 8) (hl : l.length = n) (hN : o + n ≤ N) (hc : n ≤ c) (hz : z = true → n = 0) (hn : n ≤ 1000000) (hcnt : 0 ≤ cnt ∧ cnt + ((n + 15) / 16 : Nat) ≤ 1000000000) :
    FnR Try.prog tds 55 1 [bts z N o n (L l), tabs 1 0 boxes cnt, keyD 1 K, sealC 2 H] [.c (.p 3 0 0), nonA nn, .c (.sn z 0 0 o n c)] (fun _ => True)
      (fun x hs => x = .a (.c (.sl 4 0 0 n (n + 16))) ∧ hs = [bts z N o n (L l), tabs 1 0 boxes (cnt + ((n + 15) / 16 : Nat)), keyD 1 K, sealC 2 H, [.row (n + 16) (bytesF n (L (cryL E nn l)))]]) := by
  refine fn_of_body tds_ok follows_ Try.func55 rfl (t := .a (.c (.p 3 0 0)) :: .a (nonA nn) :: .a (.c (.sn z 0 0 o n c)) :: anys 42) rfl (fun w r0 hr _ => ?_)
  obtain ⟨x0, x1, x2, x3, rfl⟩ := len4' hr
  refine ⟨rfl, ⟨by omega, by omega⟩, ⟨by omega, by omega, by show ((n : Int) + 16) * 1 ≤ 140737488355328; omega, by omega⟩, ?_⟩
  have e1 : ((n : Nat) : Int).toNat = n := by omega
  have e2 : (((n : Nat) : Int) + 16).toNat = n + 16 := by omega
  refine frcN_of e1 (frcN_of e2 ?_)
  obtain ⟨C, hC⟩ : ∃ C, cryB E nn l = C := ⟨_, rfl⟩
  obtain ⟨W, hW⟩ : ∃ W, withB E nn = W := ⟨_, rfl⟩
  have hW0 : W 0 = fun _ => 0#8 := by rw [← hW]; rfl
  have hWs : ∀ k, W (k + 1) = E (ctrB nn (BitVec.ofNat 32 (2 + k / 16))) := fun k => by
    rw [← hW]; unfold withB; rw [if_neg (by omega), show 1 + (k + 1 + 15) / 16 = 2 + k / 16 by omega]
  have hWk : ∀ k, k % 16 ≠ 0 → W k = W (k + 1) := fun k h => by
    obtain ⟨k, rfl⟩ : ∃ i, k = i + 1 := ⟨k - 1, by omega⟩
    rw [hWs, hWs, show (k + 1) / 16 = k / 16 by omega]
  refine .inl ⟨Nat, fun k => ⟨[.a (.c (.p 3 0 0)), .any, .any, .any, .a (.c (.p 4 0 0)), .any, .any, .a (.c (.sl 5 0 0 n (n + 16))), .a (.c (.w32 ((BitVec.ofNat 32 (1 + (k + 15) / 16))))), .a (.c (.p 6 0 0)), .any, .any, .any, .any, .any, .any, .any, .any, .a (.c (.sn z 0 0 o n c)), .a (.c (.int .i64 (↑n))), .a (.c (.int .i64 (↑k))), .any, .any, .any, .any, .any, .any, .any, .any, .any, .any, .any, .any, .any, .any, .any, .any, .any, .any, .any, .any, .any, .any, .any, .any], [bts z N o n (L l), tabs 1 0 boxes (cnt + ((k + 15) / 16 : Nat)), keyD 1 K, sealC 2 H, [.row 12 fun i => .w8 (nn i)], [.row (n + 16) (fun j => .w8 (if j < k then C j else 0#8))], [.row 16 fun i => .w8 (W k i)]]⟩, fun k => k ≤ n, fun k => n - k, ⟨0, [0, 1, 2, 3, 4, 5, 6], ⟨⟨rfl, rfl, rfl⟩, ?_⟩, by omega⟩, fun k hk => ⟨fun h => ?_, fun h => ?_⟩⟩
  · (repeat first | exact trivial | refine ⟨rfl, ?_⟩ | refine ⟨fun _ _ => ⟨rfl, trivial⟩, ?_⟩ | refine ⟨fun _ _ => trivial, ?_⟩ | refine ⟨by omega, ?_⟩ | refine ⟨fun _ _ => eqC_winS, ?_⟩ | refine ⟨fun _ _ => eqC_winM, ?_⟩ | refine ⟨fun _ _ => eqC_winB, ?_⟩ | refine ⟨fun _ _ => eqC_selfB, ?_⟩ | refine ⟨fun _ _ => eqC_mpB, ?_⟩)
    refine eqC_bts ?_
    (repeat first | exact trivial | refine ⟨rfl, ?_⟩ | refine ⟨fun _ _ => ⟨rfl, trivial⟩, ?_⟩ | refine ⟨fun _ _ => trivial, ?_⟩ | refine ⟨by omega, ?_⟩ | refine ⟨fun _ _ => eqC_winS, ?_⟩ | refine ⟨fun _ _ => eqC_winM, ?_⟩ | refine ⟨fun _ _ => eqC_winB, ?_⟩ | refine ⟨fun _ _ => eqC_selfB, ?_⟩ | refine ⟨fun _ _ => eqC_mpB, ?_⟩)
    rw [hW0]
    (repeat first | exact trivial | refine ⟨rfl, ?_⟩ | refine ⟨fun _ _ => ⟨rfl, trivial⟩, ?_⟩ | refine ⟨fun _ _ => trivial, ?_⟩ | refine ⟨by omega, ?_⟩ | refine ⟨fun _ _ => eqC_winS, ?_⟩ | refine ⟨fun _ _ => eqC_winM, ?_⟩ | refine ⟨fun _ _ => eqC_winB, ?_⟩ | refine ⟨fun _ _ => eqC_selfB, ?_⟩ | refine ⟨fun _ _ => eqC_mpB, ?_⟩)
  · have hlt : k < n := by have : (k : Int) < n := of_decide_eq_true h; omega
    obtain rfl : z = false := by cases z; rfl; have := hz rfl; omega
    (repeat first | refine ⟨by omega, ?_⟩ | refine ⟨by decide, ?_⟩ | refine ⟨idx8 _, ?_⟩ | refine ⟨lt8 (Nat.le_refl _) _, ?_⟩)
    refine frc_win hlt ?_
    refine ⟨⟨by omega, by omega⟩, ?_⟩
    by_cases h16 : k % 16 = 0
    · have e3 : decide ((k : Int) % 16 = 0) = true := decide_eq_true (by omega)
      have ec : BitVec.ofNat 32 (1 + (k + 15) / 16) + 1#32 = BitVec.ofNat 32 (2 + k / 16) := by
        rw [show 2 + k / 16 = (1 + (k + 15) / 16) + 1 by omega]
        exact (BitVec.ofNat_add _ _).symm
      have hq : (k + 1 + 15) / 16 = (k + 15) / 16 + 1 := by omega
      (repeat first | refine ⟨fun _ => ?_, fun h => absurd h (by rw [e3]; decide)⟩ | refine ⟨fun h => absurd h (by rw [e3]; decide), fun _ => ?_⟩ | refine ⟨fun _ => ?_, fun h => Bool.noConfusion h⟩ | refine ⟨fun h => Bool.noConfusion h, fun _ => ?_⟩)
      (repeat first | refine And.intro (by omega) ?_ | refine And.intro (by decide) ?_ | (with_reducible refine frc_parts (by first | omega | decide) ?_) | (with_reducible refine frc_bytesL (by first | omega | decide) ?_) | refine And.intro rfl ?_)
      refine call_same (fn_counted (cnt + ((k + 15) / 16 : Nat)) key K E hK hE H nn (BitVec.ofNat 32 (2 + k / 16)) (by omega)) [1, 2, 3] rfl ⟨rfl, rfl, rfl, fun j hj => ⟨rfl, trivial⟩, ec, trivial⟩ (by (repeat first | exact trivial | refine ⟨rfl, ?_⟩ | refine ⟨fun _ _ => ⟨rfl, trivial⟩, ?_⟩ | refine ⟨fun _ _ => trivial, ?_⟩ | refine ⟨by omega, ?_⟩ | refine ⟨fun _ _ => eqC_winS, ?_⟩ | refine ⟨fun _ _ => eqC_winM, ?_⟩ | refine ⟨fun _ _ => eqC_winB, ?_⟩ | refine ⟨fun _ _ => eqC_selfB, ?_⟩ | refine ⟨fun _ _ => eqC_mpB, ?_⟩)) (fun _ _ => trivial) ?_
      rintro x hs ⟨rfl, rfl⟩
      rw [← hWs]
      (repeat first | refine And.intro (by omega) ?_ | refine And.intro (by decide) ?_ | (with_reducible refine frc_parts (by first | omega | decide) ?_) | (with_reducible refine frc_bytesL (by first | omega | decide) ?_) | refine And.intro rfl ?_)
      refine ⟨k + 1, [0, 1, 2, 3, 4, 5, 6], ⟨⟨rfl, rfl, rfl⟩, ?_⟩, by dsimp only; omega, by dsimp only; omega⟩
      (repeat first | exact trivial | refine ⟨rfl, ?_⟩ | refine ⟨fun _ _ => ⟨rfl, trivial⟩, ?_⟩ | refine ⟨fun _ _ => trivial, ?_⟩ | refine ⟨by omega, ?_⟩ | refine ⟨fun _ _ => eqC_winS, ?_⟩ | refine ⟨fun _ _ => eqC_winM, ?_⟩ | refine ⟨fun _ _ => eqC_winB, ?_⟩ | refine ⟨fun _ _ => eqC_selfB, ?_⟩ | refine ⟨fun _ _ => eqC_mpB, ?_⟩)
      refine ⟨by rw [show 1 + (k + 1 + 15) / 16 = 2 + k / 16 by omega]; exact ec, ?_⟩
      (repeat first | exact trivial | refine ⟨rfl, ?_⟩ | refine ⟨fun _ _ => ⟨rfl, trivial⟩, ?_⟩ | refine ⟨fun _ _ => trivial, ?_⟩ | refine ⟨by omega, ?_⟩ | refine ⟨fun _ _ => eqC_winS, ?_⟩ | refine ⟨fun _ _ => eqC_winM, ?_⟩ | refine ⟨fun _ _ => eqC_winB, ?_⟩ | refine ⟨fun _ _ => eqC_selfB, ?_⟩ | refine ⟨fun _ _ => eqC_mpB, ?_⟩)
      refine ⟨fun j hj => eqC_w8 ?_, ?_⟩
      · have e4 : (k : Int).toNat + 0 = k := by omega
        have e5 : ((k : Int) % 16).toNat + 0 = k % 16 := by omega
        rw [e4, e5]
        refine (upd_w8 (g := fun j => .w8 (if j < k + 1 then C j else 0#8)) ?_ (fun i hi => ?_) j)
        · rw [if_pos (by omega), ← hC]
          unfold cryB
          rw [← hWs]
          rfl
        · have : i < k + 1 ↔ i < k := by omega
          simp only [this]
      (repeat first | exact trivial | refine ⟨rfl, ?_⟩ | refine ⟨fun _ _ => ⟨rfl, trivial⟩, ?_⟩ | refine ⟨fun _ _ => trivial, ?_⟩ | refine ⟨by omega, ?_⟩ | refine ⟨fun _ _ => eqC_winS, ?_⟩ | refine ⟨fun _ _ => eqC_winM, ?_⟩ | refine ⟨fun _ _ => eqC_winB, ?_⟩ | refine ⟨fun _ _ => eqC_selfB, ?_⟩ | refine ⟨fun _ _ => eqC_mpB, ?_⟩)
    · have e3 : decide ((k : Int) % 16 = 0) = false := decide_eq_false (by omega)
      have hq : (k + 1 + 15) / 16 = (k + 15) / 16 := by omega
      (repeat first | refine ⟨fun _ => ?_, fun h => absurd h (by rw [e3]; decide)⟩ | refine ⟨fun h => absurd h (by rw [e3]; decide), fun _ => ?_⟩ | refine ⟨fun _ => ?_, fun h => Bool.noConfusion h⟩ | refine ⟨fun h => Bool.noConfusion h, fun _ => ?_⟩)
      (repeat first | refine And.intro (by omega) ?_ | refine And.intro (by decide) ?_ | (with_reducible refine frc_parts (by first | omega | decide) ?_) | (with_reducible refine frc_bytesL (by first | omega | decide) ?_) | refine And.intro rfl ?_)
      refine ⟨k + 1, [0, 1, 2, 3, 4, 5, 6], ⟨⟨rfl, rfl, rfl⟩, ?_⟩, by dsimp only; omega, by dsimp only; omega⟩
      (repeat first | exact trivial | refine ⟨rfl, ?_⟩ | refine ⟨fun _ _ => ⟨rfl, trivial⟩, ?_⟩ | refine ⟨fun _ _ => trivial, ?_⟩ | refine ⟨by omega, ?_⟩ | refine ⟨fun _ _ => eqC_winS, ?_⟩ | refine ⟨fun _ _ => eqC_winM, ?_⟩ | refine ⟨fun _ _ => eqC_winB, ?_⟩ | refine ⟨fun _ _ => eqC_selfB, ?_⟩ | refine ⟨fun _ _ => eqC_mpB, ?_⟩)
      refine ⟨by rw [hq], ?_⟩
      (repeat first | exact trivial | refine ⟨rfl, ?_⟩ | refine ⟨fun _ _ => ⟨rfl, trivial⟩, ?_⟩ | refine ⟨fun _ _ => trivial, ?_⟩ | refine ⟨by omega, ?_⟩ | refine ⟨fun _ _ => eqC_winS, ?_⟩ | refine ⟨fun _ _ => eqC_winM, ?_⟩ | refine ⟨fun _ _ => eqC_winB, ?_⟩ | refine ⟨fun _ _ => eqC_selfB, ?_⟩ | refine ⟨fun _ _ => eqC_mpB, ?_⟩)
      refine ⟨fun j hj => eqC_w8 ?_, ?_⟩
      · have e4 : (k : Int).toNat + 0 = k := by omega
        have e5 : ((k : Int) % 16).toNat + 0 = k % 16 := by omega
        rw [e4, e5]
        refine (upd_w8 (g := fun j => .w8 (if j < k + 1 then C j else 0#8)) ?_ (fun i hi => ?_) j)
        · rw [if_pos (by omega), ← hC]
          unfold cryB
          rw [← hWs, ← hWk k h16]
          rfl
        · have : i < k + 1 ↔ i < k := by omega
          simp only [this]
      (repeat first | exact trivial | refine ⟨rfl, ?_⟩ | refine ⟨fun _ _ => ⟨rfl, trivial⟩, ?_⟩ | refine ⟨fun _ _ => trivial, ?_⟩ | refine ⟨by omega, ?_⟩ | refine ⟨fun _ _ => eqC_winS, ?_⟩ | refine ⟨fun _ _ => eqC_winM, ?_⟩ | refine ⟨fun _ _ => eqC_winB, ?_⟩ | refine ⟨fun _ _ => eqC_selfB, ?_⟩ | refine ⟨fun _ _ => eqC_mpB, ?_⟩)
      exact ⟨fun j hj => eqC_w8 (by rw [hWk k h16]), trivial⟩
  · obtain rfl : k = n := by have : ¬ (k : Int) < n := of_decide_eq_false h; have hk : k ≤ n := hk; omega
    refine ⟨.a (.c (.sl 4 0 0 k (k + 16))), [bts z N o k (L l), tabs 1 0 boxes (cnt + ((k + 15) / 16 : Nat)), keyD 1 K, sealC 2 H, [.row (k + 16) (bytesF k (L (cryL E nn l)))]], ⟨[0, 1, 2, 3, 5], ⟨rfl, rfl, rfl⟩, ?_⟩, rfl, rfl⟩
    (repeat first | exact trivial | refine ⟨rfl, ?_⟩ | refine ⟨fun _ _ => ⟨rfl, trivial⟩, ?_⟩ | refine ⟨fun _ _ => trivial, ?_⟩ | refine ⟨by omega, ?_⟩ | refine ⟨fun _ _ => eqC_winS, ?_⟩ | refine ⟨fun _ _ => eqC_winM, ?_⟩ | refine ⟨fun _ _ => eqC_winB, ?_⟩ | refine ⟨fun _ _ => eqC_selfB, ?_⟩ | refine ⟨fun _ _ => eqC_mpB, ?_⟩)
    refine eqC_bts ?_
    (repeat first | exact trivial | refine ⟨rfl, ?_⟩ | refine ⟨fun _ _ => ⟨rfl, trivial⟩, ?_⟩ | refine ⟨fun _ _ => trivial, ?_⟩ | refine ⟨by omega, ?_⟩ | refine ⟨fun _ _ => eqC_winS, ?_⟩ | refine ⟨fun _ _ => eqC_winM, ?_⟩ | refine ⟨fun _ _ => eqC_winB, ?_⟩ | refine ⟨fun _ _ => eqC_selfB, ?_⟩ | refine ⟨fun _ _ => eqC_mpB, ?_⟩)
    refine ⟨fun j hj => eqC_bytes (f := fun j => SC.w8 (if j < k then C j else 0#8)) (fun i hi => ?_) j, trivial⟩
    rw [if_pos hi, ← hC]
    unfold cryL
    rw [hl, L_tab hi]
theorem len2s {α : Type} : ∀ {l : List α}, l.length = 2 → ∃ a b, l = [a, b]
  | [a, b], _ => ⟨a, b, rfl⟩
abbrev sealH (H : E) : List Seg := [.one .any, .one (.w64 (hi H)), .one (.w64 (lo H))]
set_option maxRecDepth 20000 in
theorem fn_hash (z : Bool) (N o n c : Nat) (l : Bs) (H e : E) (hl : l.length = n) (hN : o + n ≤ N) (hc : n ≤ c) (hz : z = true → n = 0) (hn : n ≤ 1000000) :
    FnR Try.prog tds 73 2 [bts z N o n (L l), sealH H] [.c (.p 1 0 0), eltA e, .c (.sn z 0 0 o n c)] (fun _ => True)
      (fun x hs => x = .a (eltA (hL H e l)) ∧ hs = [bts z N o n (L l), sealH H]) := by
  refine fn_of_body tds_ok follows_ Try.func73 rfl (t := .a (.c (.p 1 0 0)) :: .a (eltA e) :: .a (.c (.sn z 0 0 o n c)) :: anys 35) rfl (fun w r0 hr _ => ?_)
  obtain ⟨x0, x1, rfl⟩ := len2s hr
  cases z with
  | true =>
    obtain rfl := hz rfl
    refine ⟨rfl, ?_⟩
    refine .inl ⟨Unit, fun _ => ⟨[.a (.c (.p 1 0 0)), .any, .a (.c (.sn true 0 0 o 0 c)), .any, .a (.c (.p 2 0 0)), .any, .a (.c (.p 3 0 0)), .any, .any, .any, .any, .any, .any, .any, .any, .any, .any, .any, .any, .any, .any, .any, .any, .any, .any, .any, .any, .any, .any, .any, .any, .any, .any, .any, .any, .any, .any, .any], [bts true N o 0 (L l), sealH H, elt2 (hi e) (lo e), elt2 0 0]⟩,
      fun _ => True, fun _ => 0, ⟨(), [0, 1, 2, 3], ⟨⟨rfl, rfl, rfl⟩, ?_⟩, trivial⟩, fun _ _ => ⟨fun h => absurd (of_decide_eq_true h) (by decide), fun h => ?_⟩⟩
    · (repeat first | exact trivial | refine ⟨rfl, ?_⟩ | refine ⟨fun _ _ => ⟨rfl, trivial⟩, ?_⟩ | refine ⟨by omega, ?_⟩)
    · refine ⟨rfl, .a (eltA (hL H e l)), [bts true N o 0 (L l), sealH H], ⟨[0, 1], ⟨rfl, rfl, rfl⟩, ?_⟩, rfl, rfl⟩
      have e0 : hL H e l = e := by unfold hL; rw [hl]; rfl
      rw [e0]
      (repeat first | exact trivial | refine ⟨rfl, ?_⟩ | refine ⟨fun _ _ => ⟨rfl, trivial⟩, ?_⟩ | refine ⟨by omega, ?_⟩)
  | false =>
  refine ⟨rfl, ?_⟩
  refine .inl ⟨Nat × Nat × Nat, fun (k, oo, cc) => ⟨[.a (.c (.p 1 0 0)), .any, .a (.c (.sn false 0 0 oo (n - 16 * k) cc)), .any, .a (.c (.p 2 0 0)), .any, .a (.c (.p 3 0 0)), .any, .any, .any, .any, .any, .any, .any, .any, .any, .any, .any, .any, .any, .any, .any, .any, .any, .any, .any, .any, .any, .any, .any, .any, .any, .any, .any, .any, .any, .any, .any], [[.row N (winF o n (L l))], sealH H, elt2 (hi (hS H e l k)) (lo (hS H e l k)), elt2 0 0]⟩,
    fun (k, oo, cc) => k ≤ (n + 15) / 16 ∧ (16 * k < n → oo = o + 16 * k) ∧ n - 16 * k ≤ cc ∧ cc ≤ c, fun (k, _, _) => n - k, ⟨(0, o, c), [0, 1, 2, 3], ⟨⟨rfl, rfl, rfl⟩, ?_⟩, by omega, by omega, by omega, by omega⟩, fun (k, oo, cc) ⟨hk, hoo, hcc, hcc'⟩ => ⟨fun h => ?_, fun h => ?_⟩⟩
  · (repeat first | exact trivial | refine ⟨rfl, ?_⟩ | refine ⟨fun _ _ => ⟨rfl, trivial⟩, ?_⟩ | refine ⟨fun _ _ => trivial, ?_⟩ | refine ⟨by omega, ?_⟩ | refine ⟨fun _ _ => eqC_winS, ?_⟩ | refine ⟨fun _ _ => eqC_winM, ?_⟩ | refine ⟨fun _ _ => eqC_winB, ?_⟩ | refine ⟨fun _ _ => eqC_selfB, ?_⟩ | refine ⟨fun _ _ => eqC_mpB, ?_⟩)
  · have hlt : 16 * k < n := by have : ((n - 16 * k : Nat) : Int) > 0 := of_decide_eq_true h; omega
    obtain rfl : oo = o + 16 * k := hoo hlt
    (repeat first | refine ⟨by omega, ?_⟩ | refine ⟨by decide, ?_⟩ | refine ⟨idx8 _, ?_⟩ | refine ⟨lt8 (Nat.le_refl _) _, ?_⟩ | refine ⟨rfl, ?_⟩)
    refine ⟨fun q => winF o n (L l) (q + (o + 16 * k)), ⟨fun h => Bool.noConfusion h, fun _ => ⟨N, winF o n (L l), [], rfl, by simp only [scale]; omega, fun _ _ => rfl⟩⟩, ?_⟩
    refine ⟨(show 0 + min (n - 16 * k) 16 ≤ 16 by omega), ?_⟩
    obtain ⟨m, hm⟩ : ∃ m, min (n - 16 * k) 16 = m := ⟨_, rfl⟩
    have hm1 : m ≤ n - 16 * k ∧ m ≤ 16 ∧ 0 < m ∧ (m = n - 16 * k ∨ m = 16) := by omega
    rw [hm]
    refine ⟨⟨by omega, by omega, by omega⟩, ?_⟩
    have e2 : ((m : Nat) : Int).toNat = m := by omega
    have e3 : ((n - 16 * k : Nat) : Int).toNat = n - 16 * k := by omega
    obtain ⟨o2, ho2⟩ : ∃ o2, (if cc = m then o + 16 * k else o + 16 * k + m * 1) = o2 := ⟨_, rfl⟩
    have e5 : n - 16 * k - m = n - 16 * (k + 1) := by omega
    refine frcN_of e2 ?_
    refine frcN_of e3 ?_
    refine frcN_of ho2 ?_
    refine frcN_of e5 ?_
    refine frcN_of rfl ?_
    (repeat first | refine And.intro (by omega) ?_ | refine And.intro (by decide) ?_ | (with_reducible refine frc_parts (by first | omega | decide) ?_) | (with_reducible refine frc_bytesL (by first | omega | decide) ?_) | refine And.intro rfl ?_)
    refine call_same (fn_load (partB l k)) [] rfl ⟨rfl, rfl, fun j hj => eqC_w8 ?_, trivial⟩ trivial (fun _ _ => trivial) ?_
    · show updN (fun _ => SC.w8 0) 0 m (fun q => winF o n (L l) (q + (o + 16 * k))) (j + 0) = SC.w8 (partB l k j)
      unfold updN partB
      rw [hl]
      by_cases hjm : j < m
      · rw [if_pos ⟨Nat.zero_le _, by omega⟩, if_pos (by omega)]
        show winF o n (L l) (j + 0 - 0 + (o + 16 * k)) = _
        rw [show j + 0 - 0 + (o + 16 * k) = o + (16 * k + j) by omega, winF_at _ _ _ (by omega)]
      · rw [if_neg (by omega), if_neg (by omega)]
        rfl
    rintro x hs ⟨rfl, rfl⟩
    (repeat first | refine And.intro (by omega) ?_ | refine And.intro (by decide) ?_ | (with_reducible refine frc_parts (by first | omega | decide) ?_) | (with_reducible refine frc_bytesL (by first | omega | decide) ?_) | refine And.intro rfl ?_)
    refine ⟨none, [], [(0, true), (1, true), (2, true), (3, true), (4, true), (5, true), (6, true), (7, true), (8, true), (9, true), (10, true), (11, true), (12, true), (13, true), (14, true), (15, false)], [16], by kernel_rfl, ?_⟩
    (repeat first | refine And.intro (by omega) ?_ | refine And.intro (by decide) ?_ | (with_reducible refine frc_parts (by first | omega | decide) ?_) | (with_reducible refine frc_bytesL (by first | omega | decide) ?_) | refine And.intro rfl ?_)
    refine call_same (fn_gtimes (hS H e l k ^^^ toE (partB l k)) H) [] rfl ⟨rfl, (hi_xor _ _).symm, (lo_xor _ _).symm, rfl, rfl, rfl, trivial⟩ trivial (fun _ _ => trivial) ?_
    rintro x hs ⟨rfl, rfl⟩
    refine ⟨rfl, ?_⟩
    refine ⟨(k + 1, o2, cc - m), [0, 1, 2, 3], ⟨⟨rfl, rfl, rfl⟩, ?_⟩, ⟨by omega, fun h2 => ?_, by omega, by omega⟩, by dsimp only; omega⟩
    · (repeat first | exact trivial | refine ⟨rfl, ?_⟩ | refine ⟨fun _ _ => ⟨rfl, trivial⟩, ?_⟩ | refine ⟨fun _ _ => trivial, ?_⟩ | refine ⟨by omega, ?_⟩ | refine ⟨fun _ _ => eqC_winS, ?_⟩ | refine ⟨fun _ _ => eqC_winM, ?_⟩ | refine ⟨fun _ _ => eqC_winB, ?_⟩ | refine ⟨fun _ _ => eqC_selfB, ?_⟩ | refine ⟨fun _ _ => eqC_mpB, ?_⟩)
    · rw [← ho2, if_neg (by omega)]; omega
  · obtain rfl : k = (n + 15) / 16 := by have : ¬ ((n - 16 * k : Nat) : Int) > 0 := of_decide_eq_false h; omega
    refine ⟨rfl, .a (eltA (hL H e l)), [[.row N (winF o n (L l))], sealH H], ⟨[0, 1], ⟨rfl, rfl, rfl⟩, ?_⟩, rfl, rfl⟩
    unfold hL
    rw [hl]
    (repeat first | exact trivial | refine ⟨rfl, ?_⟩ | refine ⟨fun _ _ => ⟨rfl, trivial⟩, ?_⟩ | refine ⟨fun _ _ => trivial, ?_⟩ | refine ⟨by omega, ?_⟩ | refine ⟨fun _ _ => eqC_winS, ?_⟩ | refine ⟨fun _ _ => eqC_winM, ?_⟩ | refine ⟨fun _ _ => eqC_winB, ?_⟩ | refine ⟨fun _ _ => eqC_selfB, ?_⟩ | refine ⟨fun _ _ => eqC_mpB, ?_⟩)
end Sx
end Go.Proofs.Ytndlhhhebijknaa
end

section
/-
  The program's sealer: marks; sealed, opened. No condition.
-/
namespace Go.Proofs.Ytndlhhhebijknaa
set_option linter.unusedVariables false
namespace Sx
open Aes Gcm Sha

set_option maxRecDepth 20000 in
theorem fn_tag (za zh : Bool) (Na Nh oa oh na nh ca ch : Nat) (a b : Bs) (cnt : Int) (key K : Nat → BitVec 8) (E : (Nat → BitVec 8) → Nat → BitVec 8) (hK : pKeys key = K) (hE : pTurn key = E) (H : Gcm.E) (nn : Nat → BitVec 8)
    (hla : a.length = na) (hNa : oa + na ≤ Na) (hca : na ≤ ca) (hza : za = true → na = 0) (hna : na ≤ 1000000) (hlh : b.length = nh) (hNh : oh + nh ≤ Nh) (hch : nh ≤ ch) (hzh : zh = true → nh = 0) (hnh : nh ≤ 1000000) (hcnt : 0 ≤ cnt ∧ cnt ≤ 1000000000) :
    FnR Try.prog tds 56 2 [bts za Na oa na (L a), bts zh Nh oh nh (L b), tabs 1 0 boxes cnt, keyD 2 K, sealC 3 H] [.c (.p 4 0 0), nonA nn, .c (.sn za 0 0 oa na ca), .c (.sn zh 1 0 oh nh ch)] (fun _ => True)
      (fun x hs => x = .a (blk (tagB E H nn a b)) ∧ hs = [bts za Na oa na (L a), bts zh Nh oh nh (L b), tabs 1 0 boxes (cnt + 1), keyD 2 K, sealC 3 H]) := by
  refine fn_of_body tds_ok follows_ Try.func56 rfl (t := .a (.c (.p 4 0 0)) :: .a (nonA nn) :: .a (.c (.sn za 0 0 oa na ca)) :: .a (.c (.sn zh 1 0 oh nh ch)) :: anys 55) rfl (fun w r0 hr _ => ?_)
  obtain ⟨x0, x1, x2, x3, x4, rfl⟩ := len5' hr
  obtain ⟨e1, he1⟩ : ∃ e, hL H 0#128 a = e := ⟨_, rfl⟩
  obtain ⟨e2, he2⟩ : ∃ e, hL H e1 b = e := ⟨_, rfl⟩
  obtain ⟨e3, he3⟩ : ∃ e, mul (e2 ^^^ lenE na nh) H = e := ⟨_, rfl⟩
  have hT : tagE H a b = e3 := by unfold tagE; rw [he1, he2, hla, hlh, he3]
  refine ⟨rfl, ?_⟩
  refine ⟨by kernel_rfl, call_same (fn_hash za Na oa na ca a H 0#128 hla hNa hca hza hna) [0, 4] rfl ⟨rfl, rfl, hi0.symm, lo0.symm, rfl, rfl, rfl, rfl, trivial⟩ ?_ (fun _ _ => trivial) ?_⟩
  · refine eqC_bts ?_
    (repeat first | exact trivial | refine ⟨rfl, ?_⟩ | refine ⟨fun _ _ => ⟨rfl, trivial⟩, ?_⟩ | refine ⟨fun _ _ => trivial, ?_⟩ | refine ⟨by omega, ?_⟩ | refine ⟨fun _ _ => eqC_winS, ?_⟩ | refine ⟨fun _ _ => eqC_winM, ?_⟩ | refine ⟨fun _ _ => eqC_winB, ?_⟩ | refine ⟨fun _ _ => eqC_selfB, ?_⟩ | refine ⟨fun _ _ => eqC_mpB, ?_⟩)
  rintro x hs ⟨rfl, rfl⟩
  rw [he1]
  refine ⟨rfl, ?_⟩
  refine ⟨by kernel_rfl, call_same (fn_hash zh Nh oh nh ch b H e1 hlh hNh hch hzh hnh) [1, 4] rfl ⟨rfl, rfl, rfl, rfl, rfl, rfl, rfl, rfl, trivial⟩ ?_ (fun _ _ => trivial) ?_⟩
  · refine eqC_bts ?_
    (repeat first | exact trivial | refine ⟨rfl, ?_⟩ | refine ⟨fun _ _ => ⟨rfl, trivial⟩, ?_⟩ | refine ⟨fun _ _ => trivial, ?_⟩ | refine ⟨by omega, ?_⟩ | refine ⟨fun _ _ => eqC_winS, ?_⟩ | refine ⟨fun _ _ => eqC_winM, ?_⟩ | refine ⟨fun _ _ => eqC_winB, ?_⟩ | refine ⟨fun _ _ => eqC_selfB, ?_⟩ | refine ⟨fun _ _ => eqC_mpB, ?_⟩)
  rintro x hs ⟨rfl, rfl⟩
  rw [he2]
  (repeat first | refine ⟨by omega, ?_⟩ | refine ⟨by decide, ?_⟩ | refine ⟨idx8 _, ?_⟩ | refine ⟨lt8 (Nat.le_refl _) _, ?_⟩ | refine ⟨rfl, ?_⟩)
  refine ⟨none, [7], [(0, true), (1, true), (2, true), (3, true), (4, true), (5, false), (6, false), (7, false)], [8], by kernel_rfl, ?_⟩
  (repeat first | refine And.intro (by omega) ?_ | refine And.intro (by decide) ?_ | (with_reducible refine frc_parts (by first | omega | decide) ?_) | (with_reducible refine frc_bytesL (by first | omega | decide) ?_) | refine And.intro rfl ?_)
  refine call_same (fn_gtimes (e2 ^^^ lenE na nh) H) [] rfl ⟨rfl, ?_, ?_, rfl, rfl, rfl, trivial⟩ trivial (fun _ _ => trivial) ?_
  · rw [hi_xor]; unfold lenE; rw [hi_mk]; rfl
  · rw [lo_xor]; unfold lenE; rw [lo_mk]; rfl
  rintro x hs ⟨rfl, rfl⟩
  rw [he3]
  (repeat first | refine And.intro (by omega) ?_ | refine And.intro (by decide) ?_ | (with_reducible refine frc_parts (by first | omega | decide) ?_) | (with_reducible refine frc_bytesL (by first | omega | decide) ?_) | refine And.intro rfl ?_)
  refine call_same (fn_store e3) [] rfl ⟨rfl, rfl, rfl, trivial⟩ trivial (fun _ _ => trivial) ?_
  rintro x hs ⟨rfl, rfl⟩
  (repeat first | refine And.intro (by omega) ?_ | refine And.intro (by decide) ?_ | (with_reducible refine frc_parts (by first | omega | decide) ?_) | (with_reducible refine frc_bytesL (by first | omega | decide) ?_) | refine And.intro rfl ?_)
  refine call_same (fn_counted cnt key K E hK hE H nn 1#32 hcnt) [2, 3, 4] rfl ⟨rfl, rfl, rfl, fun j hj => ⟨rfl, trivial⟩, rfl, trivial⟩ (by (repeat first | exact trivial | refine ⟨rfl, ?_⟩ | refine ⟨fun _ _ => ⟨rfl, trivial⟩, ?_⟩ | refine ⟨fun _ _ => trivial, ?_⟩ | refine ⟨by omega, ?_⟩ | refine ⟨fun _ _ => eqC_winS, ?_⟩ | refine ⟨fun _ _ => eqC_winM, ?_⟩ | refine ⟨fun _ _ => eqC_winB, ?_⟩ | refine ⟨fun _ _ => eqC_selfB, ?_⟩ | refine ⟨fun _ _ => eqC_mpB, ?_⟩)) (fun _ _ => trivial) ?_
  rintro x hs ⟨rfl, rfl⟩
  obtain ⟨Y, hY⟩ : ∃ Y, E (ctrB nn 1#32) = Y := ⟨_, rfl⟩
  obtain ⟨T, hTT⟩ : ∃ T, byE e3 = T := ⟨_, rfl⟩
  rw [hY, hTT]
  refine .inl ⟨Nat, fun k => ⟨[.any, .any, .any, .any, .any, .any, .any, .any, .a (.c (.p 6 0 0)), .any, .a (.c (.p 8 0 0)), .any, .any, .any, .any, .any, .any, .any, .any, .any, .any, .any, .any, .any, .any, .any, .any, .any, .any, .any, .any, .any, .any, .any, .any, .any, .any, .any, .any, .any, .any, .any, .any, .any, .any, .any, .a (.agg [.row 16 fun i => .w8 (Y i)]), .a (.c (.int .i64 (↑k))), .any, .any, .any, .any, .any, .any, .any, .any, .any, .any, .any], [bts za Na oa na (L a), bts zh Nh oh nh (L b), tabs 1 0 boxes (cnt + 1), keyD 2 K, sealC 3 H, [.row 12 fun i => .w8 (nn i)], [.row 16 fun _ => .w8 0], [.one .any, .one .any], [.row 16 fun i => .w8 (if i < k then T i ^^^ Y i else T i)]]⟩, fun k => k ≤ 16, fun k => 16 - k, ⟨0, [0, 1, 2, 3, 4, 5, 6, 7, 8], ⟨⟨rfl, rfl, rfl⟩, ?_⟩, by omega⟩, fun k hk => ⟨fun h => ?_, fun h => ?_⟩⟩
  · (repeat first | exact trivial | refine ⟨rfl, ?_⟩ | refine ⟨fun _ _ => ⟨rfl, trivial⟩, ?_⟩ | refine ⟨fun _ _ => trivial, ?_⟩ | refine ⟨by omega, ?_⟩ | refine ⟨fun _ _ => eqC_winS, ?_⟩ | refine ⟨fun _ _ => eqC_winM, ?_⟩ | refine ⟨fun _ _ => eqC_winB, ?_⟩ | refine ⟨fun _ _ => eqC_selfB, ?_⟩ | refine ⟨fun _ _ => eqC_mpB, ?_⟩)
    refine eqC_bts (eqC_bts ?_)
    (repeat first | exact trivial | refine ⟨rfl, ?_⟩ | refine ⟨fun _ _ => ⟨rfl, trivial⟩, ?_⟩ | refine ⟨fun _ _ => trivial, ?_⟩ | refine ⟨by omega, ?_⟩ | refine ⟨fun _ _ => eqC_winS, ?_⟩ | refine ⟨fun _ _ => eqC_winM, ?_⟩ | refine ⟨fun _ _ => eqC_winB, ?_⟩ | refine ⟨fun _ _ => eqC_selfB, ?_⟩ | refine ⟨fun _ _ => eqC_mpB, ?_⟩)
  · have hlt : (k : Int) < 16 := of_decide_eq_true h
    (repeat first | refine And.intro (by omega) ?_ | refine And.intro (by decide) ?_ | (with_reducible refine frc_parts (by first | omega | decide) ?_) | (with_reducible refine frc_bytesL (by first | omega | decide) ?_) | refine And.intro rfl ?_)
    refine ⟨k + 1, [0, 1, 2, 3, 4, 5, 6, 7, 8], ⟨⟨rfl, rfl, rfl⟩, ?_⟩, by dsimp only; omega, by dsimp only; omega⟩
    (repeat first | exact trivial | refine ⟨rfl, ?_⟩ | refine ⟨fun _ _ => ⟨rfl, trivial⟩, ?_⟩ | refine ⟨fun _ _ => trivial, ?_⟩ | refine ⟨by omega, ?_⟩ | refine ⟨fun _ _ => eqC_winS, ?_⟩ | refine ⟨fun _ _ => eqC_winM, ?_⟩ | refine ⟨fun _ _ => eqC_winB, ?_⟩ | refine ⟨fun _ _ => eqC_selfB, ?_⟩ | refine ⟨fun _ _ => eqC_mpB, ?_⟩)
    refine eqC_bts (eqC_bts ?_)
    (repeat first | exact trivial | refine ⟨rfl, ?_⟩ | refine ⟨fun _ _ => ⟨rfl, trivial⟩, ?_⟩ | refine ⟨fun _ _ => trivial, ?_⟩ | refine ⟨by omega, ?_⟩ | refine ⟨fun _ _ => eqC_winS, ?_⟩ | refine ⟨fun _ _ => eqC_winM, ?_⟩ | refine ⟨fun _ _ => eqC_winB, ?_⟩ | refine ⟨fun _ _ => eqC_selfB, ?_⟩ | refine ⟨fun _ _ => eqC_mpB, ?_⟩)
    refine ⟨fun j hj => eqC_w8 ?_, trivial⟩
    have e4 : (k : Int).toNat + 0 = k := by omega
    rw [e4]
    refine (upd_w8 (g := fun i => .w8 (if i < k + 1 then T i ^^^ Y i else T i)) ?_ (fun i hi => ?_) j)
    · rw [if_neg (by omega : ¬ k < k), if_pos (by omega : k < k + 1)]
    · have : i < k + 1 ↔ i < k := by omega
      simp only [this]
  · obtain rfl : k = 16 := by have : ¬ (k : Int) < 16 := of_decide_eq_false h; have hk : k ≤ 16 := hk; omega
    (repeat first | refine And.intro (by omega) ?_ | refine And.intro (by decide) ?_ | (with_reducible refine frc_parts (by first | omega | decide) ?_) | (with_reducible refine frc_bytesL (by first | omega | decide) ?_) | refine And.intro rfl ?_)
    refine ⟨.a (blk (tagB E H nn a b)), [bts za Na oa na (L a), bts zh Nh oh nh (L b), tabs 1 0 boxes (cnt + 1), keyD 2 K, sealC 3 H], ⟨[0, 1, 2, 3, 4], ⟨rfl, rfl, rfl⟩, ?_⟩, rfl, rfl⟩
    (repeat first | exact trivial | refine ⟨rfl, ?_⟩ | refine ⟨fun _ _ => ⟨rfl, trivial⟩, ?_⟩ | refine ⟨fun _ _ => trivial, ?_⟩ | refine ⟨by omega, ?_⟩ | refine ⟨fun _ _ => eqC_winS, ?_⟩ | refine ⟨fun _ _ => eqC_winM, ?_⟩ | refine ⟨fun _ _ => eqC_winB, ?_⟩ | refine ⟨fun _ _ => eqC_selfB, ?_⟩ | refine ⟨fun _ _ => eqC_mpB, ?_⟩)
    refine ⟨fun j hj => eqC_w8 (congrArg SC.w8 ?_), ?_⟩
    · rw [if_pos (show j + 0 + 0 < 16 from hj)]
      unfold tagB
      rw [hT, hTT, hY]
      rfl
    refine eqC_bts (eqC_bts ?_)
    (repeat first | exact trivial | refine ⟨rfl, ?_⟩ | refine ⟨fun _ _ => ⟨rfl, trivial⟩, ?_⟩ | refine ⟨fun _ _ => trivial, ?_⟩ | refine ⟨by omega, ?_⟩ | refine ⟨fun _ _ => eqC_winS, ?_⟩ | refine ⟨fun _ _ => eqC_winM, ?_⟩ | refine ⟨fun _ _ => eqC_winB, ?_⟩ | refine ⟨fun _ _ => eqC_selfB, ?_⟩ | refine ⟨fun _ _ => eqC_mpB, ?_⟩)
set_option maxRecDepth 20000 in
theorem fn_gseal (za zh : Bool) (Na Nh oa oh na nh ca ch : Nat) (a b S : Bs) (cnt : Int) (key K : Nat → BitVec 8) (E : (Nat → BitVec 8) → Nat → BitVec 8) (hK : pKeys key = K) (hE : pTurn key = E) (H : Gcm.E) (nn : Nat → BitVec 8) (hS : sealL E H nn a b = S)
    (hla : a.length = na) (hNa : oa + na ≤ Na) (hca : na ≤ ca) (hza : za = true → na = 0) (hna : na ≤ 1000000) (hlh : b.length = nh) (hNh : oh + nh ≤ Nh) (hch : nh ≤ ch) (hzh : zh = true → nh = 0) (hnh : nh ≤ 1000000) (hcnt : 0 ≤ cnt ∧ cnt ≤ 900000000) :
    FnR Try.prog tds 34 2 [bts za Na oa na (L a), bts zh Nh oh nh (L b), tabs 1 0 boxes cnt, keyD 2 K, sealC 3 H] [.c (.p 4 0 0), nonA nn, .c (.sn za 0 0 oa na ca), .c (.sn zh 1 0 oh nh ch)] (fun _ => True)
      (fun x hs => ∃ c, nh + 16 ≤ c ∧ x = .a (.c (.sl 5 0 0 (nh + 16) c)) ∧ hs = [bts za Na oa na (L a), bts zh Nh oh nh (L b), tabs 1 0 boxes (cnt + ((nh + 15) / 16 : Nat) + 1), keyD 2 K, sealC 3 H, [.row c (bytesF (nh + 16) (L S))]]) := by
  refine fn_of_body tds_ok follows_ Try.func34 rfl (t := .a (.c (.p 4 0 0)) :: .a (nonA nn) :: .a (.c (.sn za 0 0 oa na ca)) :: .a (.c (.sn zh 1 0 oh nh ch)) :: anys 28) rfl (fun w r0 hr _ => ?_)
  obtain ⟨x0, x1, x2, x3, x4, rfl⟩ := len5' hr
  obtain ⟨C, hC⟩ : ∃ C, cryL E nn b = C := ⟨_, rfl⟩
  have hCl : C.length = nh := by rw [← hC, cryL_len, hlh]
  obtain ⟨T, hT⟩ : ∃ T, tagB E H nn a C = T := ⟨_, rfl⟩
  have hST : S = C ++ tab 16 T := by rw [← hS, sealL, hC, hT]
  refine ⟨rfl, ?_⟩
  (repeat first | refine ⟨fun _ => ?_, fun h => absurd h (by rw []; decide)⟩ | refine ⟨fun h => absurd h (by rw []; decide), fun _ => ?_⟩ | refine ⟨fun _ => ?_, fun h => Bool.noConfusion h⟩ | refine ⟨fun h => Bool.noConfusion h, fun _ => ?_⟩)
  (repeat first | refine And.intro (by omega) ?_ | refine And.intro (by decide) ?_ | (with_reducible refine frc_parts (by first | omega | decide) ?_) | (with_reducible refine frc_bytesL (by first | omega | decide) ?_) | refine And.intro rfl ?_)
  refine call_same (fn_crypt zh Nh oh nh ch b cnt key K E hK hE H nn hlh hNh hch hzh hnh (by omega)) [1, 2, 3, 4] rfl (by (repeat first | exact trivial | refine ⟨rfl, ?_⟩ | refine ⟨fun _ _ => ⟨rfl, trivial⟩, ?_⟩ | refine ⟨fun _ _ => trivial, ?_⟩ | refine ⟨by omega, ?_⟩ | refine ⟨fun _ _ => eqC_winS, ?_⟩ | refine ⟨fun _ _ => eqC_winM, ?_⟩ | refine ⟨fun _ _ => eqC_winB, ?_⟩ | refine ⟨fun _ _ => eqC_selfB, ?_⟩ | refine ⟨fun _ _ => eqC_mpB, ?_⟩)) ?_ (fun _ _ => trivial) ?_
  · refine eqC_bts ?_
    (repeat first | exact trivial | refine ⟨rfl, ?_⟩ | refine ⟨fun _ _ => ⟨rfl, trivial⟩, ?_⟩ | refine ⟨fun _ _ => trivial, ?_⟩ | refine ⟨by omega, ?_⟩ | refine ⟨fun _ _ => eqC_winS, ?_⟩ | refine ⟨fun _ _ => eqC_winM, ?_⟩ | refine ⟨fun _ _ => eqC_winB, ?_⟩ | refine ⟨fun _ _ => eqC_selfB, ?_⟩ | refine ⟨fun _ _ => eqC_mpB, ?_⟩)
  rintro x hs ⟨rfl, rfl⟩
  rw [hC]
  (repeat first | refine And.intro (by omega) ?_ | refine And.intro (by decide) ?_ | (with_reducible refine frc_parts (by first | omega | decide) ?_) | (with_reducible refine frc_bytesL (by first | omega | decide) ?_) | refine And.intro rfl ?_)
  refine call_same (fn_tag za false Na (nh + 16) oa 0 na nh ca (nh + 16) a C (cnt + ((nh + 15) / 16 : Nat)) key K E hK hE H nn hla hNa hca hza hna hCl (by omega) (by omega) (fun h => Bool.noConfusion h) hnh (by omega)) [0, 6, 2, 3, 4] rfl (by (repeat first | exact trivial | refine ⟨rfl, ?_⟩ | refine ⟨fun _ _ => ⟨rfl, trivial⟩, ?_⟩ | refine ⟨fun _ _ => trivial, ?_⟩ | refine ⟨by omega, ?_⟩ | refine ⟨fun _ _ => eqC_winS, ?_⟩ | refine ⟨fun _ _ => eqC_winM, ?_⟩ | refine ⟨fun _ _ => eqC_winB, ?_⟩ | refine ⟨fun _ _ => eqC_selfB, ?_⟩ | refine ⟨fun _ _ => eqC_mpB, ?_⟩)) ?_ (fun _ _ => trivial) ?_
  · refine eqC_bts ?_
    (repeat first | exact trivial | refine ⟨rfl, ?_⟩ | refine ⟨fun _ _ => ⟨rfl, trivial⟩, ?_⟩ | refine ⟨fun _ _ => trivial, ?_⟩ | refine ⟨by omega, ?_⟩ | refine ⟨fun _ _ => eqC_winS, ?_⟩ | refine ⟨fun _ _ => eqC_winM, ?_⟩ | refine ⟨fun _ _ => eqC_winB, ?_⟩ | refine ⟨fun _ _ => eqC_selfB, ?_⟩ | refine ⟨fun _ _ => eqC_mpB, ?_⟩)
    refine ⟨fun j hj => eqC_winBM (Nat.le_refl _), ?_⟩
    (repeat first | exact trivial | refine ⟨rfl, ?_⟩ | refine ⟨fun _ _ => ⟨rfl, trivial⟩, ?_⟩ | refine ⟨fun _ _ => trivial, ?_⟩ | refine ⟨by omega, ?_⟩ | refine ⟨fun _ _ => eqC_winS, ?_⟩ | refine ⟨fun _ _ => eqC_winM, ?_⟩ | refine ⟨fun _ _ => eqC_winB, ?_⟩ | refine ⟨fun _ _ => eqC_selfB, ?_⟩ | refine ⟨fun _ _ => eqC_mpB, ?_⟩)
  rintro x hs ⟨rfl, rfl⟩
  rw [hT]
  (repeat first | refine And.intro (by omega) ?_ | refine And.intro (by decide) ?_ | (with_reducible refine frc_parts (by first | omega | decide) ?_) | (with_reducible refine frc_bytesL (by first | omega | decide) ?_) | refine And.intro rfl ?_)
  refine ⟨⟨by omega, by simp only [scale]; omega, by show (nh + 16) * 1 ≤ 140737488355328; omega⟩, fun c' hc' => ?_⟩
  have hc'' : nh + 16 ≤ c' := hc'
  refine ⟨.a (.c (.sl 5 0 0 (nh + 16) c')), _, ⟨[0, 1, 2, 3, 4, 8], ⟨rfl, rfl, rfl⟩, ?_⟩, c', hc'', rfl, rfl⟩
  (repeat first | exact trivial | refine ⟨rfl, ?_⟩ | refine ⟨fun _ _ => ⟨rfl, trivial⟩, ?_⟩ | refine ⟨fun _ _ => trivial, ?_⟩ | refine ⟨by omega, ?_⟩ | refine ⟨fun _ _ => eqC_winS, ?_⟩ | refine ⟨fun _ _ => eqC_winM, ?_⟩ | refine ⟨fun _ _ => eqC_winB, ?_⟩ | refine ⟨fun _ _ => eqC_selfB, ?_⟩ | refine ⟨fun _ _ => eqC_mpB, ?_⟩)
  refine eqC_bts (eqC_bts ?_)
  (repeat first | exact trivial | refine ⟨rfl, ?_⟩ | refine ⟨fun _ _ => ⟨rfl, trivial⟩, ?_⟩ | refine ⟨fun _ _ => trivial, ?_⟩ | refine ⟨by omega, ?_⟩ | refine ⟨fun _ _ => eqC_winS, ?_⟩ | refine ⟨fun _ _ => eqC_winM, ?_⟩ | refine ⟨fun _ _ => eqC_winB, ?_⟩ | refine ⟨fun _ _ => eqC_selfB, ?_⟩ | refine ⟨fun _ _ => eqC_mpB, ?_⟩)
  refine ⟨fun j hj => eqC_bytes (fun i hi => ?_) j, trivial⟩
  rw [hST]
  refine app_row (l := C) (m := tab 16 T) hCl (tab_len _ _) (fun i hi => ?_) (fun i hi => ?_) i hi
  · show SC.mp _ (bytesF nh (L C) i) = _
    rw [bytesF_lt hi]
    rfl
  · rw [L_tab hi]
    rfl
end Sx
end Go.Proofs.Ytndlhhhebijknaa
end

section
/-
  The program's sealer: opened; made; nil ones. No condition.
-/
namespace Go.Proofs.Ytndlhhhebijknaa
set_option linter.unusedVariables false
namespace Gcm
open Sha
def wrB (S T : Nat → BitVec 8) : Nat → BitVec 8
  | 0 => 0#8
  | k + 1 => wrB S T k ||| (S k ^^^ T k)
theorem wrB_zero (S T : Nat → BitVec 8) : ∀ k, wrB S T k = 0#8 ↔ ∀ i, i < k → S i = T i
  | 0 => ⟨fun _ i h => absurd h (by omega), fun _ => rfl⟩
  | k + 1 => by
    simp only [wrB]
    rw [BitVec.or_eq_zero_iff, wrB_zero S T k]
    constructor
    · rintro ⟨h1, h2⟩ i hi
      by_cases h : i = k
      · subst h
        have := congrArg (· ^^^ T i) h2
        simpa [BitVec.xor_assoc] using this
      · exact h1 i (by omega)
    · intro h
      exact ⟨fun i hi => h i (by omega), by rw [h k (by omega), BitVec.xor_self]⟩
end Gcm
namespace Sx
open Aes Gcm Sha

set_option maxRecDepth 20000 in
theorem fn_gopen (za zh : Bool) (Na Nh oa oh na nh ca ch : Nat) (a b : Bs) (T : Nat → BitVec 8) (P : Bs) (cnt : Int) (key K : Nat → BitVec 8) (E : (Nat → BitVec 8) → Nat → BitVec 8) (hK : pKeys key = K) (hE : pTurn key = E) (H : Gcm.E) (nn : Nat → BitVec 8)
    (hT : tagB E H nn a (b.take (nh - 16)) = T) (hP : cryL E nn (b.take (nh - 16)) = P)
    (hla : a.length = na) (hNa : oa + na ≤ Na) (hca : na ≤ ca) (hza : za = true → na = 0) (hna : na ≤ 1000000) (hlh : b.length = nh) (hNh : oh + nh ≤ Nh) (hch : nh ≤ ch) (hzh : zh = true → nh = 0) (hnh : nh ≤ 1000000) (hcnt : 0 ≤ cnt ∧ cnt ≤ 900000000) :
    FnR Try.prog tds 37 2 [bts za Na oa na (L a), bts zh Nh oh nh (L b), tabs 1 0 boxes cnt, keyD 2 K, sealC 3 H] [.c (.p 4 0 0), nonA nn, .c (.sn za 0 0 oa na ca), .c (.sn zh 1 0 oh nh ch)] (fun _ => True)
      (fun x hs => (nh < 16 → x = .tup [.c (.slc none 0 0), .c (.int .i64 3)] ∧ hs = [bts za Na oa na (L a), bts zh Nh oh nh (L b), tabs 1 0 boxes cnt, keyD 2 K, sealC 3 H]) ∧
        (16 ≤ nh → (∀ i, i < 16 → L b (nh - 16 + i) = T i) → x = .tup [.c (.sl 5 0 0 (nh - 16) nh), .c (.int .i64 0)] ∧ hs = [bts za Na oa na (L a), bts zh Nh oh nh (L b), tabs 1 0 boxes (cnt + 1 + ((nh - 1) / 16 : Nat)), keyD 2 K, sealC 3 H, [.row nh (bytesF (nh - 16) (L P))]]) ∧
        (16 ≤ nh → (¬ ∀ i, i < 16 → L b (nh - 16 + i) = T i) → x = .tup [.c (.slc none 0 0), .c (.int .i64 8)] ∧ hs = [bts za Na oa na (L a), bts zh Nh oh nh (L b), tabs 1 0 boxes (cnt + 1), keyD 2 K, sealC 3 H])) := by
  refine fn_of_body tds_ok follows_ Try.func37 rfl (t := .a (.c (.p 4 0 0)) :: .a (nonA nn) :: .a (.c (.sn za 0 0 oa na ca)) :: .a (.c (.sn zh 1 0 oh nh ch)) :: anys 57) rfl (fun w r0 hr _ => ?_)
  obtain ⟨x0, x1, x2, x3, x4, rfl⟩ := len5' hr
  refine ⟨rfl, ?_⟩
  (repeat first | refine ⟨fun _ => ?_, fun h => absurd h (by rw []; decide)⟩ | refine ⟨fun h => absurd h (by rw []; decide), fun _ => ?_⟩ | refine ⟨fun _ => ?_, fun h => Bool.noConfusion h⟩ | refine ⟨fun h => Bool.noConfusion h, fun _ => ?_⟩)
  by_cases h16 : nh < 16
  · have e0 : decide ((nh : Int) < 16) = true := decide_eq_true (by omega)
    (repeat first | refine ⟨fun _ => ?_, fun h => absurd h (by rw [e0]; decide)⟩ | refine ⟨fun h => absurd h (by rw [e0]; decide), fun _ => ?_⟩ | refine ⟨fun _ => ?_, fun h => Bool.noConfusion h⟩ | refine ⟨fun h => Bool.noConfusion h, fun _ => ?_⟩)
    refine ⟨.tup [.c (.slc none 0 0), .c (.int .i64 3)], _, ⟨[0, 1, 2, 3, 4], ⟨rfl, rfl, rfl⟩, ?_⟩, fun _ => ⟨rfl, rfl⟩, fun h => absurd h (by omega), fun h => absurd h (by omega)⟩
    (repeat first | exact trivial | refine ⟨rfl, ?_⟩ | refine ⟨fun _ _ => ⟨rfl, trivial⟩, ?_⟩ | refine ⟨fun _ _ => trivial, ?_⟩ | refine ⟨by omega, ?_⟩ | refine ⟨fun _ _ => eqC_winS, ?_⟩ | refine ⟨fun _ _ => eqC_winM, ?_⟩ | refine ⟨fun _ _ => eqC_winB, ?_⟩ | refine ⟨fun _ _ => eqC_selfB, ?_⟩ | refine ⟨fun _ _ => eqC_mpB, ?_⟩)
    refine eqC_bts (eqC_bts ?_)
    (repeat first | exact trivial | refine ⟨rfl, ?_⟩ | refine ⟨fun _ _ => ⟨rfl, trivial⟩, ?_⟩ | refine ⟨fun _ _ => trivial, ?_⟩ | refine ⟨by omega, ?_⟩ | refine ⟨fun _ _ => eqC_winS, ?_⟩ | refine ⟨fun _ _ => eqC_winM, ?_⟩ | refine ⟨fun _ _ => eqC_winB, ?_⟩ | refine ⟨fun _ _ => eqC_selfB, ?_⟩ | refine ⟨fun _ _ => eqC_mpB, ?_⟩)
  have e0 : decide ((nh : Int) < 16) = false := decide_eq_false (by omega)
  (repeat first | refine ⟨fun _ => ?_, fun h => absurd h (by rw [e0]; decide)⟩ | refine ⟨fun h => absurd h (by rw [e0]; decide), fun _ => ?_⟩ | refine ⟨fun _ => ?_, fun h => Bool.noConfusion h⟩ | refine ⟨fun h => Bool.noConfusion h, fun _ => ?_⟩)
  obtain rfl : zh = false := by cases zh; rfl; have := hzh rfl; omega
  have hbl : (b.take (nh - 16)).length = nh - 16 := by rw [List.length_take]; omega
  have e1 : ((nh : Int) - 16).toNat = nh - 16 := by omega
  refine ⟨⟨by omega, by omega⟩, ⟨by omega, by omega, by omega⟩, ?_⟩
  have e2 : (if ch = 0 then oh else oh + 0 * 1) = oh := by split <;> omega
  refine frcN_of (m := 0) rfl ?_
  refine frcN_of e1 ?_
  refine frcN_of e2 ?_
  refine frcN_of (m := nh - 16) (by omega) ?_
  refine frcN_of (m := ch) (by omega) ?_
  (repeat first | refine And.intro (by omega) ?_ | refine And.intro (by decide) ?_ | (with_reducible refine frc_parts (by first | omega | decide) ?_) | (with_reducible refine frc_bytesL (by first | omega | decide) ?_) | refine And.intro rfl ?_)
  refine call_same (fn_tag za false Na Nh oa oh na (nh - 16) ca ch a (b.take (nh - 16)) cnt key K E hK hE H nn hla hNa hca hza hna hbl (by omega) (by omega) (fun h => Bool.noConfusion h) (by omega) (by omega)) [0, 1, 2, 3, 4] rfl (by (repeat first | exact trivial | refine ⟨rfl, ?_⟩ | refine ⟨fun _ _ => ⟨rfl, trivial⟩, ?_⟩ | refine ⟨fun _ _ => trivial, ?_⟩ | refine ⟨by omega, ?_⟩ | refine ⟨fun _ _ => eqC_winS, ?_⟩ | refine ⟨fun _ _ => eqC_winM, ?_⟩ | refine ⟨fun _ _ => eqC_winB, ?_⟩ | refine ⟨fun _ _ => eqC_selfB, ?_⟩ | refine ⟨fun _ _ => eqC_mpB, ?_⟩)) ?_ (fun _ _ => trivial) ?_
  · refine eqC_bts ?_
    refine ⟨rfl, fun j hj => eqC_win (fun i hi => ?_) j, ?_⟩
    · rw [winF_at _ _ _ (by omega), L_take _ _ _ hi]
    (repeat first | exact trivial | refine ⟨rfl, ?_⟩ | refine ⟨fun _ _ => ⟨rfl, trivial⟩, ?_⟩ | refine ⟨fun _ _ => trivial, ?_⟩ | refine ⟨by omega, ?_⟩ | refine ⟨fun _ _ => eqC_winS, ?_⟩ | refine ⟨fun _ _ => eqC_winM, ?_⟩ | refine ⟨fun _ _ => eqC_winB, ?_⟩ | refine ⟨fun _ _ => eqC_selfB, ?_⟩ | refine ⟨fun _ _ => eqC_mpB, ?_⟩)
  rintro x hs ⟨rfl, rfl⟩
  rw [hT]
  (repeat first | refine And.intro (by omega) ?_ | refine And.intro (by decide) ?_ | (with_reducible refine frc_parts (by first | omega | decide) ?_) | (with_reducible refine frc_bytesL (by first | omega | decide) ?_) | refine And.intro rfl ?_)
  have e3 : ((nh - 16 : Nat) : Int).toNat = nh - 16 := by omega
  have e4 : ((nh : Nat) : Int).toNat = nh := by omega
  have e5 : (if ch = nh - 16 then oh else oh + (nh - 16) * 1) = oh + (nh - 16) := by rw [if_neg (by omega)]; omega
  refine frcN_of e3 ?_
  refine frcN_of e4 ?_
  refine frcN_of e5 ?_
  refine frcN_of (m := 16) (by omega) ?_
  refine frcN_of (m := ch - (nh - 16)) rfl ?_
  refine .inl ⟨Nat, fun k => ⟨[.a (.c (.p 4 0 0)), .any, .any, .any, .any, .a (.c (.p 5 0 0)), .any, .any, .any, .any, .a (.c (.sn false 1 0 oh (nh - 16) ch)), .a (.c (.p 6 0 0)), .a (.c (.w8 ((wrB (fun i => L b (nh - 16 + i)) T k)))), .any, .any, .any, .any, .any, .any, .any, .any, .any, .any, .any, .any, .any, .any, .any, .any, .any, .any, .any, .any, .any, .any, .any, .any, .any, .any, .any, .a (.c (.sn false 1 0 (oh + (nh - 16)) 16 (ch - (nh - 16)))), .a (.c (.int .i64 (16))), .a (.c (.int .i64 (↑k))), .any, .any, .any, .any, .any, .any, .any, .any, .any, .any, .any, .any, .any, .any, .any, .any, .any, .any], [bts za Na oa na (L a), bts false Nh oh nh (L b), tabs 1 0 boxes (cnt + 1), keyD 2 K, sealC 3 H, [.row 12 fun i => .w8 (nn i)], [.row 16 fun i => .w8 (T i)]]⟩, fun k => k ≤ 16, fun k => 16 - k, ⟨0, [0, 1, 2, 3, 4, 5, 6], ⟨⟨rfl, rfl, rfl⟩, ?_⟩, by omega⟩, fun k hk => ⟨fun h => ?_, fun h => ?_⟩⟩
  · (repeat first | exact trivial | refine ⟨rfl, ?_⟩ | refine ⟨fun _ _ => ⟨rfl, trivial⟩, ?_⟩ | refine ⟨fun _ _ => trivial, ?_⟩ | refine ⟨by omega, ?_⟩ | refine ⟨fun _ _ => eqC_winS, ?_⟩ | refine ⟨fun _ _ => eqC_winM, ?_⟩ | refine ⟨fun _ _ => eqC_winB, ?_⟩ | refine ⟨fun _ _ => eqC_selfB, ?_⟩ | refine ⟨fun _ _ => eqC_mpB, ?_⟩)
    refine eqC_bts ?_
    (repeat first | exact trivial | refine ⟨rfl, ?_⟩ | refine ⟨fun _ _ => ⟨rfl, trivial⟩, ?_⟩ | refine ⟨fun _ _ => trivial, ?_⟩ | refine ⟨by omega, ?_⟩ | refine ⟨fun _ _ => eqC_winS, ?_⟩ | refine ⟨fun _ _ => eqC_winM, ?_⟩ | refine ⟨fun _ _ => eqC_winB, ?_⟩ | refine ⟨fun _ _ => eqC_selfB, ?_⟩ | refine ⟨fun _ _ => eqC_mpB, ?_⟩)
  · have hlt : (k : Int) < 16 := of_decide_eq_true h
    have hk1 : k < 16 := by omega
    have e6 : (k : Int).toNat + (oh + (nh - 16)) = nh - 16 + k + oh := by omega
    have e7 : (k : Int).toNat + 0 = k := by omega
    (repeat first | refine And.intro (by omega) ?_ | refine And.intro (by decide) ?_ | (with_reducible refine frc_parts (by first | omega | decide) ?_) | (with_reducible refine frc_bytesL (by first | omega | decide) ?_) | refine And.intro rfl ?_)
    rw [e6]
    refine frc_win (i := nh - 16 + k) (by omega) ?_
    (repeat first | refine And.intro (by omega) ?_ | refine And.intro (by decide) ?_ | (with_reducible refine frc_parts (by first | omega | decide) ?_) | (with_reducible refine frc_bytesL (by first | omega | decide) ?_) | refine And.intro rfl ?_)
    refine ⟨k + 1, [0, 1, 2, 3, 4, 5, 6], ⟨⟨rfl, rfl, rfl⟩, ?_⟩, by dsimp only; omega, by dsimp only; omega⟩
    (repeat first | exact trivial | refine ⟨rfl, ?_⟩ | refine ⟨fun _ _ => ⟨rfl, trivial⟩, ?_⟩ | refine ⟨fun _ _ => trivial, ?_⟩ | refine ⟨by omega, ?_⟩ | refine ⟨fun _ _ => eqC_winS, ?_⟩ | refine ⟨fun _ _ => eqC_winM, ?_⟩ | refine ⟨fun _ _ => eqC_winB, ?_⟩ | refine ⟨fun _ _ => eqC_selfB, ?_⟩ | refine ⟨fun _ _ => eqC_mpB, ?_⟩)
    refine eqC_bts ?_
    (repeat first | exact trivial | refine ⟨rfl, ?_⟩ | refine ⟨fun _ _ => ⟨rfl, trivial⟩, ?_⟩ | refine ⟨fun _ _ => trivial, ?_⟩ | refine ⟨by omega, ?_⟩ | refine ⟨fun _ _ => eqC_winS, ?_⟩ | refine ⟨fun _ _ => eqC_winM, ?_⟩ | refine ⟨fun _ _ => eqC_winB, ?_⟩ | refine ⟨fun _ _ => eqC_selfB, ?_⟩ | refine ⟨fun _ _ => eqC_mpB, ?_⟩)
  · obtain rfl : k = 16 := by have : ¬ (k : Int) < 16 := of_decide_eq_false h; have hk : k ≤ 16 := hk; omega
    have hw := wrB_zero (fun i => L b (nh - 16 + i)) T 16
    by_cases hall : ∀ i, i < 16 → L b (nh - 16 + i) = T i
    · have e8 : decide (wrB (fun i => L b (nh - 16 + i)) T 16 ≠ 0#8) = false := decide_eq_false (fun h => h (hw.2 hall))
      (repeat first | refine ⟨fun _ => ?_, fun h => absurd h (by rw [e8]; decide)⟩ | refine ⟨fun h => absurd h (by rw [e8]; decide), fun _ => ?_⟩ | refine ⟨fun _ => ?_, fun h => Bool.noConfusion h⟩ | refine ⟨fun h => Bool.noConfusion h, fun _ => ?_⟩)
      (repeat first | refine And.intro (by omega) ?_ | refine And.intro (by decide) ?_ | (with_reducible refine frc_parts (by first | omega | decide) ?_) | (with_reducible refine frc_bytesL (by first | omega | decide) ?_) | refine And.intro rfl ?_)
      refine call_same (fn_crypt false Nh oh (nh - 16) ch (b.take (nh - 16)) (cnt + 1) key K E hK hE H nn hbl (by omega) (by omega) (fun h => Bool.noConfusion h) (by omega) (by omega)) [1, 2, 3, 4] rfl (by (repeat first | exact trivial | refine ⟨rfl, ?_⟩ | refine ⟨fun _ _ => ⟨rfl, trivial⟩, ?_⟩ | refine ⟨fun _ _ => trivial, ?_⟩ | refine ⟨by omega, ?_⟩ | refine ⟨fun _ _ => eqC_winS, ?_⟩ | refine ⟨fun _ _ => eqC_winM, ?_⟩ | refine ⟨fun _ _ => eqC_winB, ?_⟩ | refine ⟨fun _ _ => eqC_selfB, ?_⟩ | refine ⟨fun _ _ => eqC_mpB, ?_⟩)) ?_ (fun _ _ => trivial) ?_
      · refine ⟨rfl, fun j hj => eqC_win (fun i hi => ?_) j, ?_⟩
        · rw [winF_at _ _ _ (by omega), L_take _ _ _ hi]
        (repeat first | exact trivial | refine ⟨rfl, ?_⟩ | refine ⟨fun _ _ => ⟨rfl, trivial⟩, ?_⟩ | refine ⟨fun _ _ => trivial, ?_⟩ | refine ⟨by omega, ?_⟩ | refine ⟨fun _ _ => eqC_winS, ?_⟩ | refine ⟨fun _ _ => eqC_winM, ?_⟩ | refine ⟨fun _ _ => eqC_winB, ?_⟩ | refine ⟨fun _ _ => eqC_selfB, ?_⟩ | refine ⟨fun _ _ => eqC_mpB, ?_⟩)
      rintro x hs ⟨rfl, rfl⟩
      rw [hP]
      refine ⟨.tup [.c (.sl 5 0 0 (nh - 16) nh), .c (.int .i64 0)], [bts za Na oa na (L a), bts false Nh oh nh (L b), tabs 1 0 boxes (cnt + 1 + ((nh - 1) / 16 : Nat)), keyD 2 K, sealC 3 H, [.row nh (bytesF (nh - 16) (L P))]], ⟨[0, 1, 2, 3, 4, 7], ⟨rfl, rfl, rfl⟩, ?_⟩, fun h => absurd h (by omega), fun _ _ => ⟨rfl, rfl⟩, fun _ h => absurd hall h⟩
      refine ⟨rfl, rfl, by omega, rfl, ?_⟩
      refine eqC_bts ?_
      (repeat first | exact trivial | refine ⟨rfl, ?_⟩ | refine ⟨fun _ _ => ⟨rfl, trivial⟩, ?_⟩ | refine ⟨fun _ _ => trivial, ?_⟩ | refine ⟨by omega, ?_⟩ | refine ⟨fun _ _ => eqC_winS, ?_⟩ | refine ⟨fun _ _ => eqC_winM, ?_⟩ | refine ⟨fun _ _ => eqC_winB, ?_⟩ | refine ⟨fun _ _ => eqC_selfB, ?_⟩ | refine ⟨fun _ _ => eqC_mpB, ?_⟩)
    · have e8 : decide (wrB (fun i => L b (nh - 16 + i)) T 16 ≠ 0#8) = true := decide_eq_true (mt hw.1 hall)
      (repeat first | refine ⟨fun _ => ?_, fun h => absurd h (by rw [e8]; decide)⟩ | refine ⟨fun h => absurd h (by rw [e8]; decide), fun _ => ?_⟩ | refine ⟨fun _ => ?_, fun h => Bool.noConfusion h⟩ | refine ⟨fun h => Bool.noConfusion h, fun _ => ?_⟩)
      refine ⟨.tup [.c (.slc none 0 0), .c (.int .i64 8)], _, ⟨[0, 1, 2, 3, 4], ⟨rfl, rfl, rfl⟩, ?_⟩, fun h => absurd h (by omega), fun _ h => absurd h hall, fun _ _ => ⟨rfl, rfl⟩⟩
      (repeat first | exact trivial | refine ⟨rfl, ?_⟩ | refine ⟨fun _ _ => ⟨rfl, trivial⟩, ?_⟩ | refine ⟨fun _ _ => trivial, ?_⟩ | refine ⟨by omega, ?_⟩ | refine ⟨fun _ _ => eqC_winS, ?_⟩ | refine ⟨fun _ _ => eqC_winM, ?_⟩ | refine ⟨fun _ _ => eqC_winB, ?_⟩ | refine ⟨fun _ _ => eqC_selfB, ?_⟩ | refine ⟨fun _ _ => eqC_mpB, ?_⟩)
      refine eqC_bts ?_
      (repeat first | exact trivial | refine ⟨rfl, ?_⟩ | refine ⟨fun _ _ => ⟨rfl, trivial⟩, ?_⟩ | refine ⟨fun _ _ => trivial, ?_⟩ | refine ⟨by omega, ?_⟩ | refine ⟨fun _ _ => eqC_winS, ?_⟩ | refine ⟨fun _ _ => eqC_winM, ?_⟩ | refine ⟨fun _ _ => eqC_winB, ?_⟩ | refine ⟨fun _ _ => eqC_selfB, ?_⟩ | refine ⟨fun _ _ => eqC_mpB, ?_⟩)
set_option maxRecDepth 20000 in
theorem fn_gnew (d : BitVec 32) (b : Nat → BitVec 8) (cnt : Int) (key K : Nat → BitVec 8) (E : (Nat → BitVec 8) → Nat → BitVec 8) (hK : pKeys key = K) (hE : pTurn key = E) (H : Gcm.E) (hH : toE (E fun _ => 0#8) = H) (hd : d = 0#32 ∨ d = 1#32 ∧ b = boxes) (hcnt : 0 ≤ cnt ∧ cnt ≤ 1000000000) :
    Fn Try.prog tds 32 [tabs d 0 b cnt] [.c (.p 0 0 0), blk key] (fun _ => True) (fun x hs => x = .a (.c (.p 2 0 0)) ∧ hs = [tabs 1 0 boxes (cnt + 1), keyC K, sealC 1 H]) := by
  refine fn_of_body tds_ok follows_ Try.func32 rfl (t := .a (.c (.p 0 0 0)) :: .a (blk key) :: anys 16) rfl (fun w r0 hr _ => ?_)
  obtain ⟨x0, rfl⟩ := List.length_eq_one_iff.1 hr
  refine ⟨rfl, ?_⟩
  (repeat first | refine And.intro (by omega) ?_ | refine And.intro (by decide) ?_ | (with_reducible refine frc_parts (by first | omega | decide) ?_) | (with_reducible refine frc_bytesL (by first | omega | decide) ?_) | refine And.intro rfl ?_)
  refine call_same (fn_key' d b cnt key K hK hd) [0] rfl (by (repeat first | exact trivial | refine ⟨rfl, ?_⟩ | refine ⟨fun _ _ => ⟨rfl, trivial⟩, ?_⟩ | refine ⟨fun _ _ => trivial, ?_⟩ | refine ⟨by omega, ?_⟩ | refine ⟨fun _ _ => eqC_winS, ?_⟩ | refine ⟨fun _ _ => eqC_winM, ?_⟩ | refine ⟨fun _ _ => eqC_winB, ?_⟩ | refine ⟨fun _ _ => eqC_selfB, ?_⟩ | refine ⟨fun _ _ => eqC_mpB, ?_⟩)) (by (repeat first | exact trivial | refine ⟨rfl, ?_⟩ | refine ⟨fun _ _ => ⟨rfl, trivial⟩, ?_⟩ | refine ⟨fun _ _ => trivial, ?_⟩ | refine ⟨by omega, ?_⟩ | refine ⟨fun _ _ => eqC_winS, ?_⟩ | refine ⟨fun _ _ => eqC_winM, ?_⟩ | refine ⟨fun _ _ => eqC_winB, ?_⟩ | refine ⟨fun _ _ => eqC_selfB, ?_⟩ | refine ⟨fun _ _ => eqC_mpB, ?_⟩)) (fun _ _ => trivial) ?_
  rintro x hs ⟨rfl, rfl⟩
  (repeat first | refine ⟨fun _ => ?_, fun h => absurd h (by rw []; decide)⟩ | refine ⟨fun h => absurd h (by rw []; decide), fun _ => ?_⟩ | refine ⟨fun _ => ?_, fun h => Bool.noConfusion h⟩ | refine ⟨fun h => Bool.noConfusion h, fun _ => ?_⟩)
  (repeat first | refine And.intro (by omega) ?_ | refine And.intro (by decide) ?_ | (with_reducible refine frc_parts (by first | omega | decide) ?_) | (with_reducible refine frc_bytesL (by first | omega | decide) ?_) | refine And.intro rfl ?_)
  refine call_same (fn_turn' cnt key (fun _ => 0#8) K (E fun _ => 0#8) hK (by rw [hE]) (by omega)) [0, 2] rfl ⟨rfl, rfl, rfl, fun j hj => eqC_w8 (nthC_rep (n := 16) (x := .w8 0) hj), trivial⟩ (by (repeat first | exact trivial | refine ⟨rfl, ?_⟩ | refine ⟨fun _ _ => ⟨rfl, trivial⟩, ?_⟩ | refine ⟨fun _ _ => trivial, ?_⟩ | refine ⟨by omega, ?_⟩ | refine ⟨fun _ _ => eqC_winS, ?_⟩ | refine ⟨fun _ _ => eqC_winM, ?_⟩ | refine ⟨fun _ _ => eqC_winB, ?_⟩ | refine ⟨fun _ _ => eqC_selfB, ?_⟩ | refine ⟨fun _ _ => eqC_mpB, ?_⟩)) (fun _ _ => trivial) ?_
  rintro x hs ⟨rfl, rfl⟩
  (repeat first | refine And.intro (by omega) ?_ | refine And.intro (by decide) ?_ | (with_reducible refine frc_parts (by first | omega | decide) ?_) | (with_reducible refine frc_bytesL (by first | omega | decide) ?_) | refine And.intro rfl ?_)
  refine call_same (fn_load (E fun _ => 0#8)) [] rfl (by (repeat first | exact trivial | refine ⟨rfl, ?_⟩ | refine ⟨fun _ _ => ⟨rfl, trivial⟩, ?_⟩ | refine ⟨fun _ _ => trivial, ?_⟩ | refine ⟨by omega, ?_⟩ | refine ⟨fun _ _ => eqC_winS, ?_⟩ | refine ⟨fun _ _ => eqC_winM, ?_⟩ | refine ⟨fun _ _ => eqC_winB, ?_⟩ | refine ⟨fun _ _ => eqC_selfB, ?_⟩ | refine ⟨fun _ _ => eqC_mpB, ?_⟩)) trivial (fun _ _ => trivial) ?_
  rintro x hs ⟨rfl, rfl⟩
  rw [hH]
  (repeat first | refine And.intro (by omega) ?_ | refine And.intro (by decide) ?_ | (with_reducible refine frc_parts (by first | omega | decide) ?_) | (with_reducible refine frc_bytesL (by first | omega | decide) ?_) | refine And.intro rfl ?_)
  refine ⟨.a (.c (.p 2 0 0)), [tabs 1 0 boxes (cnt + 1), keyC K, sealC 1 H], ⟨[0, 2, 3], ⟨rfl, rfl, rfl⟩, ?_⟩, rfl, rfl⟩
  (repeat first | exact trivial | refine ⟨rfl, ?_⟩ | refine ⟨fun _ _ => ⟨rfl, trivial⟩, ?_⟩ | refine ⟨fun _ _ => trivial, ?_⟩ | refine ⟨by omega, ?_⟩ | refine ⟨fun _ _ => eqC_winS, ?_⟩ | refine ⟨fun _ _ => eqC_winM, ?_⟩ | refine ⟨fun _ _ => eqC_winB, ?_⟩ | refine ⟨fun _ _ => eqC_selfB, ?_⟩ | refine ⟨fun _ _ => eqC_mpB, ?_⟩)
end Sx
end Go.Proofs.Ytndlhhhebijknaa
end

section
/-
  The program's keys: what a secret gives for a label. No condition.
-/
namespace Go.Proofs.Ytndlhhhebijknaa
set_option linter.unusedVariables false
namespace Sx
open Aes Gcm Sha

set_option maxRecDepth 20000 in
theorem fn_kblock (s : Bs) (lab : List UInt8) (dn : BitVec 32) (f g : Nat → BitVec 32) (hd : dn = 0#32 ∨ dn = 1#32 ∧ f = first ∧ g = steps) (hs : s.length = 32) (hl : lab.length ≤ 249) :
    FnR Try.prog tds 61 1 [[.one (.p 1 0 0), .one .any], shaT dn 0 f g] [.c (.p 0 0 0), .agg [.row 32 fun i => .w8 (L s i)], .c (.str lab)] (fun _ => True)
      (fun x hs => ∃ (dn' : BitVec 32) (f' g' : Nat → BitVec 32), (dn' = 0#32 ∨ dn' = 1#32 ∧ f' = first ∧ g' = steps) ∧ x = .a (blk (exF s (labT lab [] 16))) ∧ hs = [[.one (.p 1 0 0), .one .any], shaT dn' 0 f' g']) := by
  refine fn_of_body tds_ok follows_ Try.func61 rfl (t := .a (.c (.p 0 0 0)) :: .a (.agg [.row 32 fun i => .w8 (L s i)]) :: .a (.c (.str lab)) :: anys 20) rfl (fun w r0 hr _ => ?_)
  obtain ⟨x0, x1, rfl⟩ := len2s hr
  refine ⟨rfl, some [2], [], [(0, true), (1, true), (2, true), (3, true), (4, true), (5, true), (6, false), (7, true), (8, true), (9, true), (10, true), (11, true)], [], by kernel_rfl, ?_⟩
  (repeat first | refine And.intro (by omega) ?_ | refine And.intro (by decide) ?_ | (with_reducible refine frc_parts (by first | omega | decide) ?_) | (with_reducible refine frc_bytesL (by first | omega | decide) ?_) | refine And.intro rfl ?_)
  refine call_same (fn_klabel true 0 0 0 s [] lab 16 dn f g hd hs (by decide) (by decide) (fun _ => rfl)) [2, 1] rfl (by (repeat first | exact trivial | refine ⟨rfl, ?_⟩ | refine ⟨fun _ _ => ⟨rfl, trivial⟩, ?_⟩ | refine ⟨fun _ _ => trivial, ?_⟩ | refine ⟨by omega, ?_⟩ | refine ⟨fun _ _ => eqC_winS, ?_⟩ | refine ⟨fun _ _ => eqC_winM, ?_⟩ | refine ⟨fun _ _ => eqC_winB, ?_⟩ | refine ⟨fun _ _ => eqC_selfB, ?_⟩ | refine ⟨fun _ _ => eqC_mpB, ?_⟩)) ?_ (fun _ _ => trivial) ?_
  · refine eqSegs_nil ?_
    (repeat first | exact trivial | refine ⟨rfl, ?_⟩ | refine ⟨fun _ _ => ⟨rfl, trivial⟩, ?_⟩ | refine ⟨fun _ _ => trivial, ?_⟩ | refine ⟨by omega, ?_⟩ | refine ⟨fun _ _ => eqC_winS, ?_⟩ | refine ⟨fun _ _ => eqC_winM, ?_⟩ | refine ⟨fun _ _ => eqC_winB, ?_⟩ | refine ⟨fun _ _ => eqC_selfB, ?_⟩ | refine ⟨fun _ _ => eqC_mpB, ?_⟩)
  rintro x hs' ⟨-, -, hgood⟩
  obtain ⟨z, N, dn', f', g', hd', -, hz2, hN, rfl, rfl⟩ := hgood hl (by decide) (by decide) (by decide)
  obtain rfl := hz2 (by decide)
  clear hgood
  have hN' : 16 ≤ N := hN
  obtain ⟨F, hF⟩ : ∃ F, exF s (labT lab [] 16) = F := ⟨_, rfl⟩
  have e16 : ((16 : Int)).toNat = 16 := rfl
  rw [e16, hF]
  (repeat first | refine And.intro (by omega) ?_ | refine And.intro (by decide) ?_ | (with_reducible refine frc_parts (by first | omega | decide) ?_) | (with_reducible refine frc_bytesL (by first | omega | decide) ?_) | refine And.intro rfl ?_)
  refine sn_btsM (g := bk 4 [2, 1]) (N := N) (b := F) rfl (by omega) (fun h => Bool.noConfusion h) (fun gx hg => ?_)
  refine ⟨(show 0 + min 16 16 ≤ 16 by decide), ?_⟩
  (repeat first | refine And.intro (by omega) ?_ | refine And.intro (by decide) ?_ | (with_reducible refine frc_parts (by first | omega | decide) ?_) | (with_reducible refine frc_bytesL (by first | omega | decide) ?_) | refine And.intro rfl ?_)
  refine ⟨_, [[.one (.p 1 0 0), .one .any], shaT dn' 0 f' g'], ⟨[0, 1], ⟨rfl, rfl, rfl⟩, ?_⟩, dn', f', g', hd', rfl, rfl⟩
  (repeat first | exact trivial | refine ⟨rfl, ?_⟩ | refine ⟨fun _ _ => ⟨rfl, trivial⟩, ?_⟩ | refine ⟨fun _ _ => trivial, ?_⟩ | refine ⟨by omega, ?_⟩ | refine ⟨fun _ _ => eqC_winS, ?_⟩ | refine ⟨fun _ _ => eqC_winM, ?_⟩ | refine ⟨fun _ _ => eqC_winB, ?_⟩ | refine ⟨fun _ _ => eqC_selfB, ?_⟩ | refine ⟨fun _ _ => eqC_mpB, ?_⟩)
  refine ⟨fun j hj => eqC_w8 ?_, ?_⟩
  · show updN (fun _ => SC.w8 0) 0 (min 16 16) gx j = SC.w8 (F j)
    unfold updN
    rw [if_pos ⟨Nat.zero_le _, by have : min 16 16 = 16 := rfl; omega⟩]
    exact hg j hj
  (repeat first | exact trivial | refine ⟨rfl, ?_⟩ | refine ⟨fun _ _ => ⟨rfl, trivial⟩, ?_⟩ | refine ⟨fun _ _ => trivial, ?_⟩ | refine ⟨by omega, ?_⟩ | refine ⟨fun _ _ => eqC_winS, ?_⟩ | refine ⟨fun _ _ => eqC_winM, ?_⟩ | refine ⟨fun _ _ => eqC_winB, ?_⟩ | refine ⟨fun _ _ => eqC_selfB, ?_⟩ | refine ⟨fun _ _ => eqC_mpB, ?_⟩)
set_option maxRecDepth 20000 in
theorem fn_ksecret (s : Bs) (lab : List UInt8) (dn : BitVec 32) (f g : Nat → BitVec 32) (hd : dn = 0#32 ∨ dn = 1#32 ∧ f = first ∧ g = steps) (hs : s.length = 32) (hl : lab.length ≤ 249) :
    FnR Try.prog tds 60 1 [[.one (.p 1 0 0), .one .any], shaT dn 0 f g] [.c (.p 0 0 0), .agg [.row 32 fun i => .w8 (L s i)], .c (.str lab)] (fun _ => True)
      (fun x hs => ∃ (dn' : BitVec 32) (f' g' : Nat → BitVec 32), (dn' = 0#32 ∨ dn' = 1#32 ∧ f' = first ∧ g' = steps) ∧ x = .a (.agg [.row 32 fun i => .w8 (exF s (labT lab [] 32) i)]) ∧ hs = [[.one (.p 1 0 0), .one .any], shaT dn' 0 f' g']) := by
  refine fn_of_body tds_ok follows_ Try.func60 rfl (t := .a (.c (.p 0 0 0)) :: .a (.agg [.row 32 fun i => .w8 (L s i)]) :: .a (.c (.str lab)) :: anys 20) rfl (fun w r0 hr _ => ?_)
  obtain ⟨x0, x1, rfl⟩ := len2s hr
  refine ⟨rfl, some [2], [], [(0, true), (1, true), (2, true), (3, true), (4, true), (5, true), (6, false), (7, true), (8, true), (9, true), (10, true), (11, true)], [], by kernel_rfl, ?_⟩
  (repeat first | refine And.intro (by omega) ?_ | refine And.intro (by decide) ?_ | (with_reducible refine frc_parts (by first | omega | decide) ?_) | (with_reducible refine frc_bytesL (by first | omega | decide) ?_) | refine And.intro rfl ?_)
  refine call_same (fn_klabel true 0 0 0 s [] lab 32 dn f g hd hs (by decide) (by decide) (fun _ => rfl)) [2, 1] rfl (by (repeat first | exact trivial | refine ⟨rfl, ?_⟩ | refine ⟨fun _ _ => ⟨rfl, trivial⟩, ?_⟩ | refine ⟨fun _ _ => trivial, ?_⟩ | refine ⟨by omega, ?_⟩ | refine ⟨fun _ _ => eqC_winS, ?_⟩ | refine ⟨fun _ _ => eqC_winM, ?_⟩ | refine ⟨fun _ _ => eqC_winB, ?_⟩ | refine ⟨fun _ _ => eqC_selfB, ?_⟩ | refine ⟨fun _ _ => eqC_mpB, ?_⟩)) ?_ (fun _ _ => trivial) ?_
  · refine eqSegs_nil ?_
    (repeat first | exact trivial | refine ⟨rfl, ?_⟩ | refine ⟨fun _ _ => ⟨rfl, trivial⟩, ?_⟩ | refine ⟨fun _ _ => trivial, ?_⟩ | refine ⟨by omega, ?_⟩ | refine ⟨fun _ _ => eqC_winS, ?_⟩ | refine ⟨fun _ _ => eqC_winM, ?_⟩ | refine ⟨fun _ _ => eqC_winB, ?_⟩ | refine ⟨fun _ _ => eqC_selfB, ?_⟩ | refine ⟨fun _ _ => eqC_mpB, ?_⟩)
  rintro x hs' ⟨-, -, hgood⟩
  obtain ⟨z, N, dn', f', g', hd', -, hz2, hN, rfl, rfl⟩ := hgood hl (by decide) (by decide) (by decide)
  obtain rfl := hz2 (by decide)
  clear hgood
  have hN' : 32 ≤ N := hN
  obtain ⟨F, hF⟩ : ∃ F, exF s (labT lab [] 32) = F := ⟨_, rfl⟩
  have e16 : ((32 : Int)).toNat = 32 := rfl
  rw [e16, hF]
  (repeat first | refine And.intro (by omega) ?_ | refine And.intro (by decide) ?_ | (with_reducible refine frc_parts (by first | omega | decide) ?_) | (with_reducible refine frc_bytesL (by first | omega | decide) ?_) | refine And.intro rfl ?_)
  refine sn_btsM (g := bk 4 [2, 1]) (N := N) (b := F) rfl (by omega) (fun h => Bool.noConfusion h) (fun gx hg => ?_)
  refine ⟨(show 0 + min 32 32 ≤ 32 by decide), ?_⟩
  (repeat first | refine And.intro (by omega) ?_ | refine And.intro (by decide) ?_ | (with_reducible refine frc_parts (by first | omega | decide) ?_) | (with_reducible refine frc_bytesL (by first | omega | decide) ?_) | refine And.intro rfl ?_)
  refine ⟨_, [[.one (.p 1 0 0), .one .any], shaT dn' 0 f' g'], ⟨[0, 1], ⟨rfl, rfl, rfl⟩, ?_⟩, dn', f', g', hd', rfl, rfl⟩
  (repeat first | exact trivial | refine ⟨rfl, ?_⟩ | refine ⟨fun _ _ => ⟨rfl, trivial⟩, ?_⟩ | refine ⟨fun _ _ => trivial, ?_⟩ | refine ⟨by omega, ?_⟩ | refine ⟨fun _ _ => eqC_winS, ?_⟩ | refine ⟨fun _ _ => eqC_winM, ?_⟩ | refine ⟨fun _ _ => eqC_winB, ?_⟩ | refine ⟨fun _ _ => eqC_selfB, ?_⟩ | refine ⟨fun _ _ => eqC_mpB, ?_⟩)
  refine ⟨fun j hj => eqC_w8 ?_, ?_⟩
  · show updN (fun _ => SC.w8 0) 0 (min 32 32) gx j = SC.w8 (F j)
    unfold updN
    rw [if_pos ⟨Nat.zero_le _, by have : min 32 32 = 32 := rfl; omega⟩]
    exact hg j hj
  (repeat first | exact trivial | refine ⟨rfl, ?_⟩ | refine ⟨fun _ _ => ⟨rfl, trivial⟩, ?_⟩ | refine ⟨fun _ _ => trivial, ?_⟩ | refine ⟨by omega, ?_⟩ | refine ⟨fun _ _ => eqC_winS, ?_⟩ | refine ⟨fun _ _ => eqC_winM, ?_⟩ | refine ⟨fun _ _ => eqC_winB, ?_⟩ | refine ⟨fun _ _ => eqC_selfB, ?_⟩ | refine ⟨fun _ _ => eqC_mpB, ?_⟩)
end Sx
end Go.Proofs.Ytndlhhhebijknaa
end
