/-
  Texts of this claim, part 7: KdfC, KdfD, KdfL, Frc, Sxw2, KdfE. No condition of its own.
-/
import Derived.Test.YtndlhhhebijknaaG6
section
/-
  Secrets out of secrets: labels. No condition.
-/
namespace Go.Proofs.Ytndlhhhebijknaa
set_option linter.unusedVariables false
namespace Sha
def tls : Bs := [116#8, 108#8, 115#8, 49#8, 51#8, 32#8]
def BS (l : List UInt8) : Bs := l.map UInt8.toBitVec
@[simp] theorem BS_len (l : List UInt8) : (BS l).length = l.length := by simp [BS]
theorem L_BS (l : List UInt8) (i : Nat) (hi : i < l.length) : L (BS l) i = (l.getD i 0).toBitVec := by
  rw [L_lt (by simpa using hi), List.getD_eq_getElem?_getD, List.getElem?_eq_getElem hi]
  simp [BS]
/-- What a label is made of. -/
def labT (lab : List UInt8) (ctx : Bs) (n : Nat) : Bs := [BitVec.ofNat 8 (n / 256), BitVec.ofNat 8 n, BitVec.ofNat 8 (6 + lab.length)] ++ tls ++ BS lab ++ [BitVec.ofNat 8 ctx.length] ++ ctx
theorem labT_len (lab : List UInt8) (ctx : Bs) (n : Nat) : (labT lab ctx n).length = 3 + 6 + lab.length + 1 + ctx.length := by simp [labT, tls]; omega
end Sha
namespace Sx
open Sha

theorem BS_row (l : List UInt8) (i : Nat) (hi : i < l.length) : SC.w8 (l.getD i 0).toBitVec = .w8 (L (BS l) i) := congrArg SC.w8 (L_BS l i hi).symm
theorem tls_row (i : Nat) (hi : i < 6) : SC.w8 (List.getD [116, 108, 115, 49, 51, 32] i (0 : UInt8)).toBitVec = .w8 (L tls i) := by
  have : i = 0 ∨ i = 1 ∨ i = 2 ∨ i = 3 ∨ i = 4 ∨ i = 5 := by omega
  rcases this with rfl | rfl | rfl | rfl | rfl | rfl <;> rfl
theorem three {x y z x' y' z' : BitVec 8} (hx : x = x') (hy : y = y') (hz : z = z') (i : Nat) (hi : i < 3) : nthC [.w8 x, .w8 y, .w8 z] i = .w8 (L [x', y', z'] i) := by
  subst hx; subst hy; subst hz
  have : i = 0 ∨ i = 1 ∨ i = 2 := by omega
  rcases this with rfl | rfl | rfl <;> rfl
theorem ofNat_mod8 (n : Nat) : BitVec.ofNat 8 (n % 256) = BitVec.ofNat 8 n := by
  apply BitVec.eq_of_toNat_eq
  simp [BitVec.toNat_ofNat]
set_option maxRecDepth 20000 in
set_option maxHeartbeats 2000000 in
theorem fn_klabel (zc : Bool) (Nc oc cc : Nat) (s ctx : Bs) (lab : List UInt8) (many : Int) (dn : BitVec 32) (f g : Nat → BitVec 32) (hd : dn = 0#32 ∨ dn = 1#32 ∧ f = first ∧ g = steps)
    (hs : s.length = 32) (hNc : oc + ctx.length ≤ Nc) (hcc : ctx.length ≤ cc) (hzc : zc = true → ctx = []) :
    FnR Try.prog tds 25 1 [bts zc Nc oc ctx.length (L ctx), shaT dn 0 f g] [.c (.p 1 0 0), .agg [.row 32 fun i => .w8 (L s i)], .c (.str lab), .c (.sn zc 0 0 oc ctx.length cc), .c (.int .i64 many)] (fun _ => True)
      (fun x hs => ((249 < lab.length ∨ 255 < ctx.length) → x = .tup [.c (.slc none 0 0), .c (.int .i64 6)] ∧ hs = [bts zc Nc oc ctx.length (L ctx), shaT dn 0 f g]) ∧
        (lab.length ≤ 249 → ctx.length ≤ 255 → (many < 0 ∨ 8160 < many) → x = .tup [.c (.slc none 0 0), .c (.int .i64 2)] ∧ hs = [bts zc Nc oc ctx.length (L ctx), shaT dn 0 f g]) ∧
        (lab.length ≤ 249 → ctx.length ≤ 255 → 0 ≤ many → many ≤ 8160 → ∃ (z : Bool) (N : Nat) (dn' : BitVec 32) (f' g' : Nat → BitVec 32), (dn' = 0#32 ∨ dn' = 1#32 ∧ f' = first ∧ g' = steps) ∧ (z = true → many.toNat = 0) ∧ (0 < many → z = false) ∧ many.toNat ≤ N ∧
          x = .tup [.c (.sn z 2 0 0 many.toNat many.toNat), .c (.int .i64 0)] ∧ hs = [bts zc Nc oc ctx.length (L ctx), shaT dn' 0 f' g', bts z N 0 many.toNat (exF s (labT lab ctx many.toNat))])) := by
  refine fn_of_body tds_ok follows_ Try.func25 rfl (t := [.a (.c (.p 1 0 0)), .a (.agg [.row 32 fun i => .w8 (L s i)]), .a (.c (.str (lab))), .a (.c (.sn zc 0 0 oc ctx.length cc)), .a (.c (.int .i64 (many))), .any, .any, .any, .any, .any, .any, .any, .any, .any, .any, .any, .any, .any, .any, .any, .any, .any, .any, .any, .any, .any, .any, .any, .any, .any, .any, .any, .any, .any, .any, .any, .any, .any, .any, .any, .any, .any, .any, .any, .any, .any, .any, .any, .any, .any, .any, .any, .any, .any, .any, .any, .any, .any, .any, .any]) rfl (fun w r0 hr _ => ?_)
  obtain ⟨x0, x1, rfl⟩ := len2' hr
  (repeat first | refine And.intro (by omega) ?_ | refine And.intro (by decide) ?_ | (with_reducible refine frc_parts (by first | omega | decide) ?_) | (with_reducible refine frc_bytesL (by first | omega | decide) ?_) | refine And.intro rfl ?_)
  refine ⟨fun h => Bool.noConfusion h, fun _ => ?_⟩
  by_cases h0 : 249 < lab.length
  · have e0 : decide ((249 : Int) < (lab.length : Int)) = true := decide_eq_true (by omega)
    (repeat first | refine ⟨fun _ => ?_, fun h => absurd h (by rw [e0]; decide)⟩ | refine ⟨fun h => absurd h (by rw [e0]; decide), fun _ => ?_⟩ | refine ⟨fun _ => ?_, fun h => Bool.noConfusion h⟩ | refine ⟨fun h => Bool.noConfusion h, fun _ => ?_⟩)
    refine ⟨.tup [.c (.slc none 0 0), .c (.int .i64 6)], [bts zc Nc oc ctx.length (L ctx), shaT dn 0 f g], ⟨[0, 1], ⟨rfl, rfl, rfl⟩, ?_⟩, fun _ => ⟨rfl, rfl⟩, fun h => absurd h (by omega), fun h => absurd h (by omega)⟩
    (repeat first | exact trivial | refine ⟨rfl, ?_⟩ | refine ⟨fun _ _ => ⟨rfl, trivial⟩, ?_⟩ | refine ⟨fun _ _ => trivial, ?_⟩ | refine ⟨by omega, ?_⟩ | refine ⟨fun _ _ => eqC_winS, ?_⟩ | refine ⟨fun _ _ => eqC_winM, ?_⟩ | refine ⟨fun _ _ => eqC_winB, ?_⟩ | refine ⟨fun _ _ => eqC_selfB, ?_⟩ | refine ⟨fun _ _ => eqC_mpB, ?_⟩)
    refine eqC_bts ?_
    (repeat first | exact trivial | refine ⟨rfl, ?_⟩ | refine ⟨fun _ _ => ⟨rfl, trivial⟩, ?_⟩ | refine ⟨fun _ _ => trivial, ?_⟩ | refine ⟨by omega, ?_⟩ | refine ⟨fun _ _ => eqC_winS, ?_⟩ | refine ⟨fun _ _ => eqC_winM, ?_⟩ | refine ⟨fun _ _ => eqC_winB, ?_⟩ | refine ⟨fun _ _ => eqC_selfB, ?_⟩ | refine ⟨fun _ _ => eqC_mpB, ?_⟩)
  have e0 : decide ((249 : Int) < (lab.length : Int)) = false := decide_eq_false (by omega)
  by_cases h1 : 255 < ctx.length
  · have e1 : decide ((255 : Int) < (ctx.length : Int)) = true := decide_eq_true (by omega)
    (repeat first | refine ⟨fun _ => ?_, fun h => absurd h (by rw [e0]; decide)⟩ | refine ⟨fun h => absurd h (by rw [e0]; decide), fun _ => ?_⟩ | refine ⟨fun _ => ?_, fun h => absurd h (by rw [e1]; decide)⟩ | refine ⟨fun h => absurd h (by rw [e1]; decide), fun _ => ?_⟩ | refine ⟨fun _ => ?_, fun h => Bool.noConfusion h⟩ | refine ⟨fun h => Bool.noConfusion h, fun _ => ?_⟩)
    refine ⟨.tup [.c (.slc none 0 0), .c (.int .i64 6)], [bts zc Nc oc ctx.length (L ctx), shaT dn 0 f g], ⟨[0, 1], ⟨rfl, rfl, rfl⟩, ?_⟩, fun _ => ⟨rfl, rfl⟩, fun _ h => absurd h (by omega), fun _ h => absurd h (by omega)⟩
    (repeat first | exact trivial | refine ⟨rfl, ?_⟩ | refine ⟨fun _ _ => ⟨rfl, trivial⟩, ?_⟩ | refine ⟨fun _ _ => trivial, ?_⟩ | refine ⟨by omega, ?_⟩ | refine ⟨fun _ _ => eqC_winS, ?_⟩ | refine ⟨fun _ _ => eqC_winM, ?_⟩ | refine ⟨fun _ _ => eqC_winB, ?_⟩ | refine ⟨fun _ _ => eqC_selfB, ?_⟩ | refine ⟨fun _ _ => eqC_mpB, ?_⟩)
    refine eqC_bts ?_
    (repeat first | exact trivial | refine ⟨rfl, ?_⟩ | refine ⟨fun _ _ => ⟨rfl, trivial⟩, ?_⟩ | refine ⟨fun _ _ => trivial, ?_⟩ | refine ⟨by omega, ?_⟩ | refine ⟨fun _ _ => eqC_winS, ?_⟩ | refine ⟨fun _ _ => eqC_winM, ?_⟩ | refine ⟨fun _ _ => eqC_winB, ?_⟩ | refine ⟨fun _ _ => eqC_selfB, ?_⟩ | refine ⟨fun _ _ => eqC_mpB, ?_⟩)
  have e1 : decide ((255 : Int) < (ctx.length : Int)) = false := decide_eq_false (by omega)
  (repeat first | refine ⟨fun _ => ?_, fun h => absurd h (by rw [e0]; decide)⟩ | refine ⟨fun h => absurd h (by rw [e0]; decide), fun _ => ?_⟩ | refine ⟨fun _ => ?_, fun h => absurd h (by rw [e1]; decide)⟩ | refine ⟨fun h => absurd h (by rw [e1]; decide), fun _ => ?_⟩ | refine ⟨fun _ => ?_, fun h => Bool.noConfusion h⟩ | refine ⟨fun h => Bool.noConfusion h, fun _ => ?_⟩)
  by_cases h2 : many < 0
  · have e2 : decide (many < 0) = true := decide_eq_true h2
    (repeat first | refine ⟨fun _ => ?_, fun h => absurd h (by rw [e2]; decide)⟩ | refine ⟨fun h => absurd h (by rw [e2]; decide), fun _ => ?_⟩ | refine ⟨fun _ => ?_, fun h => Bool.noConfusion h⟩ | refine ⟨fun h => Bool.noConfusion h, fun _ => ?_⟩)
    refine ⟨.tup [.c (.slc none 0 0), .c (.int .i64 2)], [bts zc Nc oc ctx.length (L ctx), shaT dn 0 f g], ⟨[0, 1], ⟨rfl, rfl, rfl⟩, ?_⟩, fun h => absurd h (by omega), fun _ _ _ => ⟨rfl, rfl⟩, fun _ _ h => absurd h (by omega)⟩
    (repeat first | exact trivial | refine ⟨rfl, ?_⟩ | refine ⟨fun _ _ => ⟨rfl, trivial⟩, ?_⟩ | refine ⟨fun _ _ => trivial, ?_⟩ | refine ⟨by omega, ?_⟩ | refine ⟨fun _ _ => eqC_winS, ?_⟩ | refine ⟨fun _ _ => eqC_winM, ?_⟩ | refine ⟨fun _ _ => eqC_winB, ?_⟩ | refine ⟨fun _ _ => eqC_selfB, ?_⟩ | refine ⟨fun _ _ => eqC_mpB, ?_⟩)
    refine eqC_bts ?_
    (repeat first | exact trivial | refine ⟨rfl, ?_⟩ | refine ⟨fun _ _ => ⟨rfl, trivial⟩, ?_⟩ | refine ⟨fun _ _ => trivial, ?_⟩ | refine ⟨by omega, ?_⟩ | refine ⟨fun _ _ => eqC_winS, ?_⟩ | refine ⟨fun _ _ => eqC_winM, ?_⟩ | refine ⟨fun _ _ => eqC_winB, ?_⟩ | refine ⟨fun _ _ => eqC_selfB, ?_⟩ | refine ⟨fun _ _ => eqC_mpB, ?_⟩)
  have e2 : decide (many < 0) = false := decide_eq_false h2
  by_cases h3 : 65535 < many
  · have e3 : decide (65535 < many) = true := decide_eq_true h3
    (repeat first | refine ⟨fun _ => ?_, fun h => absurd h (by rw [e2]; decide)⟩ | refine ⟨fun h => absurd h (by rw [e2]; decide), fun _ => ?_⟩ | refine ⟨fun _ => ?_, fun h => absurd h (by rw [e3]; decide)⟩ | refine ⟨fun h => absurd h (by rw [e3]; decide), fun _ => ?_⟩ | refine ⟨fun _ => ?_, fun h => Bool.noConfusion h⟩ | refine ⟨fun h => Bool.noConfusion h, fun _ => ?_⟩)
    refine ⟨.tup [.c (.slc none 0 0), .c (.int .i64 2)], [bts zc Nc oc ctx.length (L ctx), shaT dn 0 f g], ⟨[0, 1], ⟨rfl, rfl, rfl⟩, ?_⟩, fun h => absurd h (by omega), fun _ _ _ => ⟨rfl, rfl⟩, fun _ _ _ h => absurd h (by omega)⟩
    (repeat first | exact trivial | refine ⟨rfl, ?_⟩ | refine ⟨fun _ _ => ⟨rfl, trivial⟩, ?_⟩ | refine ⟨fun _ _ => trivial, ?_⟩ | refine ⟨by omega, ?_⟩ | refine ⟨fun _ _ => eqC_winS, ?_⟩ | refine ⟨fun _ _ => eqC_winM, ?_⟩ | refine ⟨fun _ _ => eqC_winB, ?_⟩ | refine ⟨fun _ _ => eqC_selfB, ?_⟩ | refine ⟨fun _ _ => eqC_mpB, ?_⟩)
    refine eqC_bts ?_
    (repeat first | exact trivial | refine ⟨rfl, ?_⟩ | refine ⟨fun _ _ => ⟨rfl, trivial⟩, ?_⟩ | refine ⟨fun _ _ => trivial, ?_⟩ | refine ⟨by omega, ?_⟩ | refine ⟨fun _ _ => eqC_winS, ?_⟩ | refine ⟨fun _ _ => eqC_winM, ?_⟩ | refine ⟨fun _ _ => eqC_winB, ?_⟩ | refine ⟨fun _ _ => eqC_selfB, ?_⟩ | refine ⟨fun _ _ => eqC_mpB, ?_⟩)
  have e3 : decide (65535 < many) = false := decide_eq_false h3
  (repeat first | refine ⟨fun _ => ?_, fun h => absurd h (by rw [e2]; decide)⟩ | refine ⟨fun h => absurd h (by rw [e2]; decide), fun _ => ?_⟩ | refine ⟨fun _ => ?_, fun h => absurd h (by rw [e3]; decide)⟩ | refine ⟨fun h => absurd h (by rw [e3]; decide), fun _ => ?_⟩ | refine ⟨fun _ => ?_, fun h => Bool.noConfusion h⟩ | refine ⟨fun h => Bool.noConfusion h, fun _ => ?_⟩)
  obtain ⟨n, rfl⟩ : ∃ n : Nat, many = n := ⟨many.toNat, by omega⟩
  (repeat first | refine And.intro (by omega) ?_ | refine And.intro (by decide) ?_ | (with_reducible refine frc_parts (by first | omega | decide) ?_) | (with_reducible refine frc_bytesL (by first | omega | decide) ?_) | refine And.intro rfl ?_)
  refine fun c1 hc1 => ?_
  have r1 := app_row (l := [BitVec.ofNat 8 (n / 256), BitVec.ofNat 8 n, BitVec.ofNat 8 (6 + lab.length)]) (m := tls) (n := 3) (k := 6) rfl rfl (f := nthC [.w8 (BitVec.ofInt 8 ((n : Int) / 2 ^ 8)), .w8 (BitVec.ofInt 8 (n : Int)), .w8 (BitVec.ofInt 8 (6 + (lab.length : Int)))]) (fun i hi => three (by rw [show (n : Int) / 2 ^ 8 = ((n / 256 : Nat) : Int) by omega]; exact BitVec.ofInt_natCast 8 _) (BitVec.ofInt_natCast 8 n) (by rw [show 6 + (lab.length : Int) = ((6 + lab.length : Nat) : Int) by omega]; exact BitVec.ofInt_natCast 8 _) i hi) (g := fun q => .w8 (List.getD [116, 108, 115, 49, 51, 32] q (0 : UInt8)).toBitVec) (fun i hi => tls_row i hi)
  refine And.intro ⟨by omega, by simp only [scale]; omega, by show (3 + 6 + lab.length) * 1 ≤ 140737488355328; omega⟩ fun c2 hc2 => ?_
  have r2 := app_row (m := BS lab) (n := 3 + 6) (k := lab.length) rfl (BS_len lab) r1 (g := fun q => .w8 (lab.getD q 0).toBitVec) (fun i hi => BS_row lab i hi)
  (repeat first | refine And.intro (by omega) ?_ | refine And.intro (by decide) ?_ | (with_reducible refine frc_parts (by first | omega | decide) ?_) | (with_reducible refine frc_bytesL (by first | omega | decide) ?_) | refine And.intro rfl ?_)
  refine And.intro ⟨by omega, by simp only [scale]; omega, by show (3 + 6 + lab.length + 1) * 1 ≤ 140737488355328; omega⟩ fun c3 hc3 => ?_
  have r3 := app_row (m := [BitVec.ofNat 8 ctx.length]) (n := 3 + 6 + lab.length) (k := 1) (by simp [tls]; try omega) rfl r2 (one_row (x := BitVec.ofInt 8 (ctx.length : Int)) (BitVec.ofInt_natCast 8 ctx.length))
  refine sn_bts (N := Nc) (b := L ctx) ?_ hNc (fun h => by rw [hzc h]; rfl) (fun gx hg => ?_)
  · rfl
  refine And.intro ⟨by omega, by simp only [scale]; omega, by show (3 + 6 + lab.length + 1 + ctx.length) * 1 ≤ 140737488355328; omega⟩ fun c4 hc4 => ?_
  have r4 := app_row (n := 3 + 6 + lab.length + 1) (by simp [tls]; try omega) rfl r3 hg
  have hTl := labT_len lab ctx n
  obtain ⟨T, hT0⟩ : ∃ T, labT lab ctx n = T := ⟨_, rfl⟩
  rw [hT0] at hTl
  have hT : [BitVec.ofNat 8 (n / 256), BitVec.ofNat 8 n, BitVec.ofNat 8 (6 + lab.length)] ++ tls ++ BS lab ++ [BitVec.ofNat 8 ctx.length] ++ ctx = T := hT0
  rw [hT] at r4
  have hc4' : T.length ≤ c4 := by rw [hTl]; exact hc4
  (repeat first | refine And.intro (by omega) ?_ | refine And.intro (by decide) ?_ | (with_reducible refine frc_parts (by first | omega | decide) ?_) | (with_reducible refine frc_bytesL (by first | omega | decide) ?_) | refine And.intro rfl ?_)
  refine call_same (fn_kexpand false c4 0 c4 s T (n : Int) dn f g hd hs (by omega) (by omega) (fun h => Bool.noConfusion h)) [8, 1] rfl ⟨rfl, rfl, rfl, fun j hj => ⟨rfl, trivial⟩, rfl, rfl, hTl.symm, rfl, rfl, trivial⟩ ?_ (fun _ _ => trivial) ?_
  · refine ⟨rfl, fun j hj => eqC_win0 (fun i hi => r4 i (by omega)) j, ?_⟩
    (repeat first | exact trivial | refine ⟨rfl, ?_⟩ | refine ⟨fun _ _ => ⟨rfl, trivial⟩, ?_⟩ | refine ⟨fun _ _ => trivial, ?_⟩ | refine ⟨by omega, ?_⟩ | refine ⟨fun _ _ => eqC_winS, ?_⟩ | refine ⟨fun _ _ => eqC_winM, ?_⟩ | refine ⟨fun _ _ => eqC_winB, ?_⟩ | refine ⟨fun _ _ => eqC_selfB, ?_⟩ | refine ⟨fun _ _ => eqC_mpB, ?_⟩)
  rintro x hs' ⟨hbad, hgood⟩
  by_cases h4 : 8160 < (n : Int)
  · obtain ⟨rfl, rfl⟩ := hbad (.inr h4)
    (repeat first | refine And.intro (by omega) ?_ | refine And.intro (by decide) ?_ | (with_reducible refine frc_parts (by first | omega | decide) ?_) | (with_reducible refine frc_bytesL (by first | omega | decide) ?_) | refine And.intro rfl ?_)
    refine ⟨.tup [.c (.slc none 0 0), .c (.int .i64 2)], [bts zc Nc oc ctx.length (L ctx), shaT dn 0 f g], ⟨[0, 1], ⟨rfl, rfl, rfl⟩, ?_⟩, fun h => absurd h (by omega), fun _ _ _ => ⟨rfl, rfl⟩, fun _ _ _ h => absurd h (by omega)⟩
    (repeat first | exact trivial | refine ⟨rfl, ?_⟩ | refine ⟨fun _ _ => ⟨rfl, trivial⟩, ?_⟩ | refine ⟨fun _ _ => trivial, ?_⟩ | refine ⟨by omega, ?_⟩ | refine ⟨fun _ _ => eqC_winS, ?_⟩ | refine ⟨fun _ _ => eqC_winM, ?_⟩ | refine ⟨fun _ _ => eqC_winB, ?_⟩ | refine ⟨fun _ _ => eqC_selfB, ?_⟩ | refine ⟨fun _ _ => eqC_mpB, ?_⟩)
    refine eqC_bts ?_
    (repeat first | exact trivial | refine ⟨rfl, ?_⟩ | refine ⟨fun _ _ => ⟨rfl, trivial⟩, ?_⟩ | refine ⟨fun _ _ => trivial, ?_⟩ | refine ⟨by omega, ?_⟩ | refine ⟨fun _ _ => eqC_winS, ?_⟩ | refine ⟨fun _ _ => eqC_winM, ?_⟩ | refine ⟨fun _ _ => eqC_winB, ?_⟩ | refine ⟨fun _ _ => eqC_selfB, ?_⟩ | refine ⟨fun _ _ => eqC_mpB, ?_⟩)
  obtain ⟨z, N, dn', f', g', hd', hz, hz2, hN, rfl, rfl⟩ := hgood (by omega) (by omega)
  (repeat first | refine And.intro (by omega) ?_ | refine And.intro (by decide) ?_ | (with_reducible refine frc_parts (by first | omega | decide) ?_) | (with_reducible refine frc_bytesL (by first | omega | decide) ?_) | refine And.intro rfl ?_)
  refine ⟨.tup [.c (.sn z 2 0 0 n n), .c (.int .i64 0)], [bts zc Nc oc ctx.length (L ctx), shaT dn' 0 f' g', bts z N 0 n (exF s T)], ⟨[0, 1, 9], ⟨rfl, rfl, rfl⟩, ?_⟩, fun h => absurd h (by omega), fun _ _ h => absurd h (by omega), fun _ _ _ _ => ⟨z, N, dn', f', g', hd', hz, hz2, hN, rfl, by subst hT0; rfl⟩⟩
  (repeat first | exact trivial | refine ⟨rfl, ?_⟩ | refine ⟨fun _ _ => ⟨rfl, trivial⟩, ?_⟩ | refine ⟨fun _ _ => trivial, ?_⟩ | refine ⟨by omega, ?_⟩ | refine ⟨fun _ _ => eqC_winS, ?_⟩ | refine ⟨fun _ _ => eqC_winM, ?_⟩ | refine ⟨fun _ _ => eqC_winB, ?_⟩ | refine ⟨fun _ _ => eqC_selfB, ?_⟩ | refine ⟨fun _ _ => eqC_mpB, ?_⟩)
  refine eqC_bts ?_
  (repeat first | exact trivial | refine ⟨rfl, ?_⟩ | refine ⟨fun _ _ => ⟨rfl, trivial⟩, ?_⟩ | refine ⟨fun _ _ => trivial, ?_⟩ | refine ⟨by omega, ?_⟩ | refine ⟨fun _ _ => eqC_winS, ?_⟩ | refine ⟨fun _ _ => eqC_winM, ?_⟩ | refine ⟨fun _ _ => eqC_winB, ?_⟩ | refine ⟨fun _ _ => eqC_selfB, ?_⟩ | refine ⟨fun _ _ => eqC_mpB, ?_⟩)
  exact eqC_btsM trivial
set_option maxRecDepth 20000 in
set_option maxHeartbeats 2000000 in
theorem fn_rlabel (zs zc : Bool) (Ns Nc os oc cs cc : Nat) (s ctx : Bs) (lab : List UInt8) (n : Nat) (hNs : os + s.length ≤ Ns) (hcs : s.length ≤ cs) (hzs : zs = true → s = []) (hNc : oc + ctx.length ≤ Nc) (hcc : ctx.length ≤ cc) (hzc : zc = true → ctx = [])
    (hsl : s.length < 1000000) (hcl : ctx.length < 100000) (hll : lab.length < 100000) (hn : n ≤ 100000) :
    FnR Try.prog tds 26 2 [bts zs Ns os s.length (L s), bts zc Nc oc ctx.length (L ctx)] [.c (.sn zs 0 0 os s.length cs), .c (.str lab), .c (.sn zc 1 0 oc ctx.length cc), .c (.int .i64 (n : Int))] (fun _ => True)
      (fun x hs => (n = 0 → x = .a (.c (.slc none 0 0)) ∧ hs = [bts zs Ns os s.length (L s), bts zc Nc oc ctx.length (L ctx)]) ∧ (0 < n → ∃ N c : Nat, n ≤ N ∧ n ≤ c ∧ x = .a (.c (.sl 2 0 0 n c)) ∧ hs = [bts zs Ns os s.length (L s), bts zc Nc oc ctx.length (L ctx), [.row N (winF 0 n (exF s (labT lab ctx n)))]])) := by
  refine fn_of_body tds_ok follows_ Try.func26 rfl (t := [.a (.c (.sn zs 0 0 os s.length cs)), .a (.c (.str (lab))), .a (.c (.sn zc 1 0 oc ctx.length cc)), .a (.c (.int .i64 (↑n))), .any, .any, .any, .any, .any, .any, .any, .any, .any, .any, .any, .any, .any, .any, .any, .any, .any, .any, .any, .any, .any, .any, .any, .any, .any, .any, .any, .any, .any, .any, .any, .any, .any, .any]) rfl (fun w r0 hr _ => ?_)
  obtain ⟨x0, x1, rfl⟩ := len2' hr
  (repeat first | refine And.intro (by omega) ?_ | refine And.intro (by decide) ?_ | (with_reducible refine frc_parts (by first | omega | decide) ?_) | (with_reducible refine frc_bytesL (by first | omega | decide) ?_) | refine And.intro rfl ?_)
  refine fun c1 hc1 => ?_
  have r1 := app_row (l := [BitVec.ofNat 8 (n / 256), BitVec.ofNat 8 n, BitVec.ofNat 8 (6 + lab.length)]) (m := tls) (n := 3) (k := 6) rfl rfl (f := nthC [.w8 (BitVec.ofInt 8 ((n : Int) / 256)), .w8 (BitVec.ofInt 8 ((n : Int) % 256)), .w8 (BitVec.ofInt 8 (6 + (lab.length : Int)))]) (fun i hi => three (by rw [show (n : Int) / 256 = ((n / 256 : Nat) : Int) by omega]; exact BitVec.ofInt_natCast 8 _) (by rw [show (n : Int) % 256 = ((n % 256 : Nat) : Int) by omega]; exact (BitVec.ofInt_natCast 8 _).trans (ofNat_mod8 n)) (by rw [show 6 + (lab.length : Int) = ((6 + lab.length : Nat) : Int) by omega]; exact BitVec.ofInt_natCast 8 _) i hi) (g := fun q => .w8 (List.getD [116, 108, 115, 49, 51, 32] q (0 : UInt8)).toBitVec) (fun i hi => tls_row i hi)
  refine And.intro ⟨by omega, by simp only [scale]; omega, by show (3 + 6 + lab.length) * 1 ≤ 140737488355328; omega⟩ fun c2 hc2 => ?_
  have r2 := app_row (m := BS lab) (n := 3 + 6) (k := lab.length) rfl (BS_len lab) r1 (g := fun q => .w8 (lab.getD q 0).toBitVec) (fun i hi => BS_row lab i hi)
  (repeat first | refine And.intro (by omega) ?_ | refine And.intro (by decide) ?_ | (with_reducible refine frc_parts (by first | omega | decide) ?_) | (with_reducible refine frc_bytesL (by first | omega | decide) ?_) | refine And.intro rfl ?_)
  refine And.intro ⟨by omega, by simp only [scale]; omega, by show (3 + 6 + lab.length + 1) * 1 ≤ 140737488355328; omega⟩ fun c3 hc3 => ?_
  have r3 := app_row (m := [BitVec.ofNat 8 ctx.length]) (n := 3 + 6 + lab.length) (k := 1) (by simp [tls]; try omega) rfl r2 (one_row (x := BitVec.ofInt 8 (ctx.length : Int)) (BitVec.ofInt_natCast 8 ctx.length))
  refine sn_bts (N := Nc) (b := L ctx) ?_ hNc (fun h => by rw [hzc h]; rfl) (fun gx hg => ?_)
  · rfl
  refine And.intro ⟨by omega, by simp only [scale]; omega, by show (3 + 6 + lab.length + 1 + ctx.length) * 1 ≤ 140737488355328; omega⟩ fun c4 hc4 => ?_
  have r4 := app_row (n := 3 + 6 + lab.length + 1) (by simp [tls]; try omega) rfl r3 hg
  have hTl := labT_len lab ctx n
  obtain ⟨T, hT0⟩ : ∃ T, labT lab ctx n = T := ⟨_, rfl⟩
  rw [hT0] at hTl
  rw [hT0]
  have hT : [BitVec.ofNat 8 (n / 256), BitVec.ofNat 8 n, BitVec.ofNat 8 (6 + lab.length)] ++ tls ++ BS lab ++ [BitVec.ofNat 8 ctx.length] ++ ctx = T := hT0
  rw [hT] at r4
  have hc4' : T.length ≤ c4 := by rw [hTl]; exact hc4
  (repeat first | refine And.intro (by omega) ?_ | refine And.intro (by decide) ?_ | (with_reducible refine frc_parts (by first | omega | decide) ?_) | (with_reducible refine frc_bytesL (by first | omega | decide) ?_) | refine And.intro rfl ?_)
  refine call_same (fn_rexpand zs false Ns c4 os 0 cs c4 s T n hNs hcs hzs (by omega) (by omega) (fun h => Bool.noConfusion h) hsl (by omega) hn) [0, 7] rfl ⟨rfl, rfl, rfl, rfl, rfl, rfl, hTl.symm, rfl, rfl, trivial⟩ ?_ (fun _ _ => trivial) ?_
  · refine eqC_bts ?_
    exact ⟨rfl, fun j hj => eqC_win0 (fun i hi => r4 i (by omega)) j, trivial⟩
  rintro x hs' ⟨h0, h1⟩
  by_cases h4 : n = 0
  · obtain ⟨rfl, rfl⟩ := h0 h4
    refine ⟨.a (.c (.slc none 0 0)), [bts zs Ns os s.length (L s), bts zc Nc oc ctx.length (L ctx)], ⟨[0, 1], ⟨rfl, rfl, rfl⟩, ?_⟩, fun _ => ⟨rfl, rfl⟩, fun h => absurd h (by omega)⟩
    (repeat first | exact trivial | refine ⟨rfl, ?_⟩ | refine ⟨fun _ _ => ⟨rfl, trivial⟩, ?_⟩ | refine ⟨fun _ _ => trivial, ?_⟩ | refine ⟨by omega, ?_⟩ | refine ⟨fun _ _ => eqC_winS, ?_⟩ | refine ⟨fun _ _ => eqC_winM, ?_⟩ | refine ⟨fun _ _ => eqC_winB, ?_⟩ | refine ⟨fun _ _ => eqC_selfB, ?_⟩ | refine ⟨fun _ _ => eqC_mpB, ?_⟩)
    refine eqC_bts (eqC_bts ?_)
    (repeat first | exact trivial | refine ⟨rfl, ?_⟩ | refine ⟨fun _ _ => ⟨rfl, trivial⟩, ?_⟩ | refine ⟨fun _ _ => trivial, ?_⟩ | refine ⟨by omega, ?_⟩ | refine ⟨fun _ _ => eqC_winS, ?_⟩ | refine ⟨fun _ _ => eqC_winM, ?_⟩ | refine ⟨fun _ _ => eqC_winB, ?_⟩ | refine ⟨fun _ _ => eqC_selfB, ?_⟩ | refine ⟨fun _ _ => eqC_mpB, ?_⟩)
  obtain ⟨N, c, hN, hc, rfl, rfl⟩ := h1 (by omega)
  refine ⟨.a (.c (.sl 2 0 0 n c)), [bts zs Ns os s.length (L s), bts zc Nc oc ctx.length (L ctx), [.row N (winF 0 n (exF s T))]], ⟨[0, 1, 8], ⟨rfl, rfl, rfl⟩, ?_⟩, fun h => absurd h h4, fun _ => ⟨N, c, hN, hc, rfl, rfl⟩⟩
  (repeat first | exact trivial | refine ⟨rfl, ?_⟩ | refine ⟨fun _ _ => ⟨rfl, trivial⟩, ?_⟩ | refine ⟨fun _ _ => trivial, ?_⟩ | refine ⟨by omega, ?_⟩ | refine ⟨fun _ _ => eqC_winS, ?_⟩ | refine ⟨fun _ _ => eqC_winM, ?_⟩ | refine ⟨fun _ _ => eqC_winB, ?_⟩ | refine ⟨fun _ _ => eqC_selfB, ?_⟩ | refine ⟨fun _ _ => eqC_mpB, ?_⟩)
  refine eqC_bts (eqC_bts ?_)
  (repeat first | exact trivial | refine ⟨rfl, ?_⟩ | refine ⟨fun _ _ => ⟨rfl, trivial⟩, ?_⟩ | refine ⟨fun _ _ => trivial, ?_⟩ | refine ⟨by omega, ?_⟩ | refine ⟨fun _ _ => eqC_winS, ?_⟩ | refine ⟨fun _ _ => eqC_winM, ?_⟩ | refine ⟨fun _ _ => eqC_winB, ?_⟩ | refine ⟨fun _ _ => eqC_selfB, ?_⟩ | refine ⟨fun _ _ => eqC_mpB, ?_⟩)
end Sx
end Go.Proofs.Ytndlhhhebijknaa
end

section
/-
  Secrets out of secrets: Extract, Derive; the law's fixed fact. No condition.
-/
namespace Go.Proofs.Ytndlhhhebijknaa
set_option linter.unusedVariables false
namespace Sx
open Sha

theorem sn_btsM {h : List (List Seg)} {g : Nat → Nat} {z : Bool} {j N o n : Nat} {b : Nat → BitVec 8} {k : (Nat → SC) → Prop} (hj : getH h j = mpL g (bts z N o n b)) (hN : o + n ≤ N) (hz : z = true → n = 0)
    (hk : ∀ g : Nat → SC, (∀ i, i < n → g i = .w8 (b i)) → k g) : ∃ f : Nat → SC, ((z = true → n = 0) ∧ (z = false → SnAt h j 0 o n 1 f)) ∧ k f := by
  refine ⟨fun i => .w8 (b i), ⟨hz, ?_⟩, hk _ fun _ _ => rfl⟩
  rintro rfl
  refine ⟨N, fun j => SC.mp g (winF o n b j), [], by rw [hj]; rfl, hN, fun q hq => ?_⟩
  show SC.w8 (b q) = SC.mp g (winF o n b (q + o))
  rw [Nat.add_comm, winF_at _ _ _ (show q < n from hq)]
  rfl
theorem eqC_winBM {q : List Nat} {g : Nat → Nat} {n m : Nat} {b : Nat → BitVec 8} {j : Nat} (h : m ≤ n) : eqC q (SC.mp g (bytesF n b j)) (winF 0 m b j) True :=
  eqC_win0 (f := fun j => SC.mp g (bytesF n b j)) (fun i hi => by rw [bytesF_lt (by omega)]; rfl) j
theorem fn_knew : Fn Try.prog tds 22 [] [] (fun _ => True) (fun x hs => x = .a (.c (.p 0 0 0)) ∧ hs = [shaT 0 0 (fun _ => 0#32) (fun _ => 0#32)]) := by
  refine fn_of_body tds_ok follows_ Try.func22 rfl (t := anys 2) rfl (fun w r0 hr _ => ?_)
  obtain rfl : r0 = [] := List.eq_nil_of_length_eq_zero hr
  refine ⟨.a (.c (.p 0 0 0)), [shaT 0 0 (fun _ => 0#32) (fun _ => 0#32)], ⟨[0], ⟨rfl, rfl, rfl⟩, ?_⟩, rfl, rfl⟩
  (repeat first | exact trivial | refine ⟨rfl, ?_⟩ | refine ⟨fun _ _ => ⟨rfl, trivial⟩, ?_⟩ | refine ⟨by omega, ?_⟩)
set_option maxRecDepth 20000 in
theorem fn_extract (zs zk : Bool) (Ns Nk os ok cs ck : Nat) (salt known : Bs) (dn : BitVec 32) (f g : Nat → BitVec 32) (hd : dn = 0#32 ∨ dn = 1#32 ∧ f = first ∧ g = steps)
    (hNs : os + salt.length ≤ Ns) (hcs : salt.length ≤ cs) (hzs : zs = true → salt = []) (hNk : ok + known.length ≤ Nk) (hck : known.length ≤ ck) (hzk : zk = true → known = []) :
    FnR Try.prog tds 27 2 [bts zs Ns os salt.length (L salt), bts zk Nk ok known.length (L known), shaT dn 0 f g] [.c (.p 2 0 0), .c (.sn zs 0 0 os salt.length cs), .c (.sn zk 1 0 ok known.length ck)] (fun _ => True)
      (fun x hs => x = .a (.agg [.row 32 fun i => .w8 (L (markL salt known) i)]) ∧ hs = [bts zs Ns os salt.length (L salt), bts zk Nk ok known.length (L known), shaT 1 0 first steps]) := by
  refine fn_of_body tds_ok follows_ Try.func27 rfl (t := [.a (.c (.p 2 0 0)), .a (.c (.sn zs 0 0 os salt.length cs)), .a (.c (.sn zk 1 0 ok known.length ck)), .any, .any, .any, .any, .any, .any, .any, .any, .any, .any, .any, .any, .any, .any]) rfl (fun w r0 hr _ => ?_)
  obtain ⟨x0, x1, x2, rfl⟩ := len3' hr
  refine ⟨fun h => Bool.noConfusion h, fun _ => ?_⟩
  (repeat first | refine And.intro (by omega) ?_ | refine And.intro (by decide) ?_ | (with_reducible refine frc_parts (by first | omega | decide) ?_) | (with_reducible refine frc_bytesL (by first | omega | decide) ?_) | refine And.intro rfl ?_)
  refine call_same (fn_smark zs zk true true Ns Nk 0 0 os ok 0 0 cs ck 0 0 salt known [] [] 1 1 1 dn f g hd hNs hcs hzs hNk hck hzk (by decide) (by decide) (fun _ => rfl) (by decide) (by decide) (fun _ => rfl) (by decide) (by decide)) [0, 1, 4, 4, 4, 2] rfl (by (repeat first | exact trivial | refine ⟨rfl, ?_⟩ | refine ⟨fun _ _ => ⟨rfl, trivial⟩, ?_⟩ | refine ⟨fun _ _ => trivial, ?_⟩ | refine ⟨by omega, ?_⟩ | refine ⟨fun _ _ => eqC_winS, ?_⟩ | refine ⟨fun _ _ => eqC_winM, ?_⟩ | refine ⟨fun _ _ => eqC_winB, ?_⟩ | refine ⟨fun _ _ => eqC_selfB, ?_⟩ | refine ⟨fun _ _ => eqC_mpB, ?_⟩)) ?_ (fun _ _ => trivial) ?_
  · refine eqC_bts (eqC_bts ?_)
    (repeat first | exact trivial | refine ⟨rfl, ?_⟩ | refine ⟨fun _ _ => ⟨rfl, trivial⟩, ?_⟩ | refine ⟨fun _ _ => trivial, ?_⟩ | refine ⟨by omega, ?_⟩ | refine ⟨fun _ _ => eqC_winS, ?_⟩ | refine ⟨fun _ _ => eqC_winM, ?_⟩ | refine ⟨fun _ _ => eqC_winB, ?_⟩ | refine ⟨fun _ _ => eqC_selfB, ?_⟩ | refine ⟨fun _ _ => eqC_mpB, ?_⟩)
    refine ⟨fun j hj => eqC_parts (fun i hi => ?_) j, ?_⟩
    · obtain rfl : i = 0 := by omega
      exact ⟨rfl, rfl, rfl, rfl, trivial⟩
    · (repeat first | exact trivial | refine ⟨rfl, ?_⟩ | refine ⟨fun _ _ => ⟨rfl, trivial⟩, ?_⟩ | refine ⟨fun _ _ => trivial, ?_⟩ | refine ⟨by omega, ?_⟩ | refine ⟨fun _ _ => eqC_winS, ?_⟩ | refine ⟨fun _ _ => eqC_winM, ?_⟩ | refine ⟨fun _ _ => eqC_winB, ?_⟩ | refine ⟨fun _ _ => eqC_selfB, ?_⟩ | refine ⟨fun _ _ => eqC_mpB, ?_⟩)
  rintro x hs ⟨rfl, rfl⟩
  rw [cat1]
  (repeat first | refine And.intro (by omega) ?_ | refine And.intro (by decide) ?_ | (with_reducible refine frc_parts (by first | omega | decide) ?_) | (with_reducible refine frc_bytesL (by first | omega | decide) ?_) | refine And.intro rfl ?_)
  refine ⟨.a (.agg [.row 32 fun i => .w8 (L (markL salt known) i)]), [bts zs Ns os salt.length (L salt), bts zk Nk ok known.length (L known), shaT 1 0 first steps], ⟨[0, 1, 2], ⟨rfl, rfl, rfl⟩, ?_⟩, rfl, rfl⟩
  (repeat first | exact trivial | refine ⟨rfl, ?_⟩ | refine ⟨fun _ _ => ⟨rfl, trivial⟩, ?_⟩ | refine ⟨fun _ _ => trivial, ?_⟩ | refine ⟨by omega, ?_⟩ | refine ⟨fun _ _ => eqC_winS, ?_⟩ | refine ⟨fun _ _ => eqC_winM, ?_⟩ | refine ⟨fun _ _ => eqC_winB, ?_⟩ | refine ⟨fun _ _ => eqC_selfB, ?_⟩ | refine ⟨fun _ _ => eqC_mpB, ?_⟩)
  refine eqC_bts (eqC_bts ?_)
  (repeat first | exact trivial | refine ⟨rfl, ?_⟩ | refine ⟨fun _ _ => ⟨rfl, trivial⟩, ?_⟩ | refine ⟨fun _ _ => trivial, ?_⟩ | refine ⟨by omega, ?_⟩ | refine ⟨fun _ _ => eqC_winS, ?_⟩ | refine ⟨fun _ _ => eqC_winM, ?_⟩ | refine ⟨fun _ _ => eqC_winB, ?_⟩ | refine ⟨fun _ _ => eqC_selfB, ?_⟩ | refine ⟨fun _ _ => eqC_mpB, ?_⟩)
def saltA : Bs := [0#8, 1#8, 2#8, 3#8, 4#8, 5#8, 6#8, 7#8, 8#8, 9#8, 10#8, 11#8, 12#8]
def knownA : Bs := [11#8, 11#8, 11#8, 11#8, 11#8, 11#8, 11#8, 11#8, 11#8, 11#8, 11#8, 11#8, 11#8, 11#8, 11#8, 11#8, 11#8, 11#8, 11#8, 11#8, 11#8, 11#8]
theorem markA : L (markL saltA knownA) 0 = 7#8 ∧ L (markL saltA knownA) 1 = 119#8 ∧ L (markL saltA knownA) 31 = 229#8 :=
  of_decide_eq_true (mark_by (p := fun l => decide (L l 0 = 7#8 ∧ L l 1 = 119#8 ∧ L l 31 = 229#8)) (by decide +kernel))
set_option maxRecDepth 20000 in
theorem fn_awake4 : Fn Try.prog tds 21 [] [] (fun _ => True) (fun x hs => x = .a (.c (.bool true)) ∧ hs = []) := by
  refine fn_of_body tds_ok follows_ Try.func21 rfl (t := anys 21) rfl (fun w r0 hr _ => ?_)
  obtain rfl : r0 = [] := List.eq_nil_of_length_eq_zero hr
  refine ⟨by kernel_rfl, call_same fn_knew [] rfl trivial trivial (fun _ _ => trivial) ?_⟩
  rintro x hs ⟨rfl, rfl⟩
  (repeat first | refine ⟨by omega, ?_⟩ | refine ⟨by decide, ?_⟩ | refine ⟨idx8 _, ?_⟩ | refine ⟨lt8 (Nat.le_refl _) _, ?_⟩ | refine ⟨rfl, ?_⟩)
  refine call_same (fn_extract false false 13 22 0 0 13 22 saltA knownA 0 (fun _ => 0) (fun _ => 0) (.inl rfl) (by decide) (by decide) (by decide) (by decide) (by decide) (by decide)) [1, 2, 0] rfl (by (repeat first | exact trivial | refine ⟨rfl, ?_⟩ | refine ⟨fun _ _ => ⟨rfl, trivial⟩, ?_⟩ | refine ⟨fun _ _ => trivial, ?_⟩ | refine ⟨by omega, ?_⟩ | refine ⟨fun _ _ => eqC_winS, ?_⟩ | refine ⟨fun _ _ => eqC_winM, ?_⟩ | refine ⟨fun _ _ => eqC_winB, ?_⟩ | refine ⟨fun _ _ => eqC_selfB, ?_⟩ | refine ⟨fun _ _ => eqC_mpB, ?_⟩)) ?_ (fun _ _ => trivial) ?_
  · (repeat first | exact trivial | refine ⟨rfl, ?_⟩ | refine ⟨fun _ _ => ⟨rfl, trivial⟩, ?_⟩ | refine ⟨fun _ _ => trivial, ?_⟩ | refine ⟨by omega, ?_⟩ | refine ⟨fun _ _ => eqC_winS, ?_⟩ | refine ⟨fun _ _ => eqC_winM, ?_⟩ | refine ⟨fun _ _ => eqC_winB, ?_⟩ | refine ⟨fun _ _ => eqC_selfB, ?_⟩ | refine ⟨fun _ _ => eqC_mpB, ?_⟩)
    refine ⟨fun j hj => eqC_lit saltA hj, ?_⟩
    (repeat first | exact trivial | refine ⟨rfl, ?_⟩ | refine ⟨fun _ _ => ⟨rfl, trivial⟩, ?_⟩ | refine ⟨fun _ _ => trivial, ?_⟩ | refine ⟨by omega, ?_⟩ | refine ⟨fun _ _ => eqC_winS, ?_⟩ | refine ⟨fun _ _ => eqC_winM, ?_⟩ | refine ⟨fun _ _ => eqC_winB, ?_⟩ | refine ⟨fun _ _ => eqC_selfB, ?_⟩ | refine ⟨fun _ _ => eqC_mpB, ?_⟩)
    refine ⟨fun j hj => eqC_lit knownA hj, ?_⟩
    (repeat first | exact trivial | refine ⟨rfl, ?_⟩ | refine ⟨fun _ _ => ⟨rfl, trivial⟩, ?_⟩ | refine ⟨fun _ _ => trivial, ?_⟩ | refine ⟨by omega, ?_⟩ | refine ⟨fun _ _ => eqC_winS, ?_⟩ | refine ⟨fun _ _ => eqC_winM, ?_⟩ | refine ⟨fun _ _ => eqC_winB, ?_⟩ | refine ⟨fun _ _ => eqC_selfB, ?_⟩ | refine ⟨fun _ _ => eqC_mpB, ?_⟩)
  rintro x hs ⟨rfl, rfl⟩
  obtain ⟨h0, h1, h2⟩ := markA
  obtain ⟨S, hS⟩ : ∃ S, markL saltA knownA = S := ⟨_, rfl⟩
  rw [hS] at h0 h1 h2
  rw [hS]
  (repeat first | refine And.intro (by omega) ?_ | refine And.intro (by decide) ?_ | refine And.intro rfl ?_ | refine And.intro (fun _ => ?_) (fun h => Bool.noConfusion h) | refine And.intro (fun _ => ?_) (fun h => absurd h0 (of_decide_eq_false h)) | refine And.intro (fun _ => ?_) (fun h => absurd h1 (of_decide_eq_false h)) | refine And.intro (fun _ => ?_) (fun h => absurd h2 (of_decide_eq_false h)))
  exact ⟨.a (.c (.bool true)), [], ⟨[], ⟨rfl, rfl, rfl⟩, decide_eq_true h2, trivial⟩, rfl, rfl⟩
set_option maxRecDepth 20000 in
theorem fn_kderive (zd : Bool) (Nd od cd : Nat) (s said : Bs) (lab : List UInt8) (dn : BitVec 32) (f g : Nat → BitVec 32) (hd : dn = 0#32 ∨ dn = 1#32 ∧ f = first ∧ g = steps)
    (hs : s.length = 32) (hl : lab.length ≤ 249) (hNd : od + said.length ≤ Nd) (hcd : said.length ≤ cd) (hzd : zd = true → said = []) :
    FnR Try.prog tds 28 1 [bts zd Nd od said.length (L said), shaT dn 0 f g] [.c (.p 1 0 0), .agg [.row 32 fun i => .w8 (L s i)], .c (.str lab), .c (.sn zd 0 0 od said.length cd)] (fun _ => True)
      (fun x hs => x = .a (.agg [.row 32 fun i => .w8 (exF s (labT lab (sumL said) 32) i)]) ∧ ∃ (dn' : BitVec 32) (f' g' : Nat → BitVec 32), (dn' = 0#32 ∨ dn' = 1#32 ∧ f' = first ∧ g' = steps) ∧ hs = [bts zd Nd od said.length (L said), shaT dn' 0 f' g']) := by
  refine fn_of_body tds_ok follows_ Try.func28 rfl (t := [.a (.c (.p 1 0 0)), .a (.agg [.row 32 fun i => .w8 (L s i)]), .a (.c (.str (lab))), .a (.c (.sn zd 0 0 od said.length cd)), .any, .any, .any, .any, .any, .any, .any, .any, .any, .any, .any, .any, .any, .any, .any, .any, .any, .any, .any, .any, .any, .any, .any, .any, .any, .any, .any, .any, .any, .any]) rfl (fun w r0 hr _ => ?_)
  obtain ⟨x0, x1, rfl⟩ := len2' hr
  (repeat first | refine And.intro (by omega) ?_ | refine And.intro (by decide) ?_ | (with_reducible refine frc_parts (by first | omega | decide) ?_) | (with_reducible refine frc_bytesL (by first | omega | decide) ?_) | refine And.intro rfl ?_)
  refine ⟨fun h => Bool.noConfusion h, fun _ => ?_⟩
  (repeat first | refine And.intro (by omega) ?_ | refine And.intro (by decide) ?_ | (with_reducible refine frc_parts (by first | omega | decide) ?_) | (with_reducible refine frc_bytesL (by first | omega | decide) ?_) | refine And.intro rfl ?_)
  refine call_same (fn_ssum3 zd true true Nd 0 0 od 0 0 cd 0 0 said [] [] 1 1 1 dn f g hd hNd (by decide) (by decide) hcd (by decide) (by decide) hzd (fun _ => rfl) (fun _ => rfl) (by decide) (by decide)) [0, 5, 5, 5, 1] rfl (by (repeat first | exact trivial | refine ⟨rfl, ?_⟩ | refine ⟨fun _ _ => ⟨rfl, trivial⟩, ?_⟩ | refine ⟨fun _ _ => trivial, ?_⟩ | refine ⟨by omega, ?_⟩ | refine ⟨fun _ _ => eqC_winS, ?_⟩ | refine ⟨fun _ _ => eqC_winM, ?_⟩ | refine ⟨fun _ _ => eqC_winB, ?_⟩ | refine ⟨fun _ _ => eqC_selfB, ?_⟩ | refine ⟨fun _ _ => eqC_mpB, ?_⟩)) ?_ (fun _ _ => trivial) ?_
  · refine eqC_bts ?_
    (repeat first | exact trivial | refine ⟨rfl, ?_⟩ | refine ⟨fun _ _ => ⟨rfl, trivial⟩, ?_⟩ | refine ⟨fun _ _ => trivial, ?_⟩ | refine ⟨by omega, ?_⟩ | refine ⟨fun _ _ => eqC_winS, ?_⟩ | refine ⟨fun _ _ => eqC_winM, ?_⟩ | refine ⟨fun _ _ => eqC_winB, ?_⟩ | refine ⟨fun _ _ => eqC_selfB, ?_⟩ | refine ⟨fun _ _ => eqC_mpB, ?_⟩)
    refine ⟨fun j hj => eqC_parts (fun i hi => ?_) j, ?_⟩
    · obtain rfl : i = 0 := by omega
      exact ⟨rfl, rfl, rfl, rfl, trivial⟩
    · (repeat first | exact trivial | refine ⟨rfl, ?_⟩ | refine ⟨fun _ _ => ⟨rfl, trivial⟩, ?_⟩ | refine ⟨fun _ _ => trivial, ?_⟩ | refine ⟨by omega, ?_⟩ | refine ⟨fun _ _ => eqC_winS, ?_⟩ | refine ⟨fun _ _ => eqC_winM, ?_⟩ | refine ⟨fun _ _ => eqC_winB, ?_⟩ | refine ⟨fun _ _ => eqC_selfB, ?_⟩ | refine ⟨fun _ _ => eqC_mpB, ?_⟩)
  rintro x hs' ⟨rfl, rfl⟩
  rw [cat1]
  obtain ⟨S, hS⟩ : ∃ S, sumL said = S := ⟨_, rfl⟩
  have hSl : S.length = 32 := by rw [← hS, sumL_len]
  rw [hS]
  (repeat first | refine And.intro (by omega) ?_ | refine And.intro (by decide) ?_ | (with_reducible refine frc_parts (by first | omega | decide) ?_) | (with_reducible refine frc_bytesL (by first | omega | decide) ?_) | refine And.intro rfl ?_)
  refine ⟨some [2], [], [(0, true), (1, true), (2, true), (3, true), (4, false), (5, true), (6, true), (7, true), (8, true), (9, true)], [], by kernel_rfl, ?_⟩
  (repeat first | refine And.intro (by omega) ?_ | refine And.intro (by decide) ?_ | (with_reducible refine frc_parts (by first | omega | decide) ?_) | (with_reducible refine frc_bytesL (by first | omega | decide) ?_) | refine And.intro rfl ?_)
  refine call_same (fn_klabel false 32 0 32 s S lab 32 1 first steps (.inr ⟨rfl, rfl, rfl⟩) hs (by omega) (by omega) (fun h => Bool.noConfusion h)) [6, 1] rfl ⟨rfl, rfl, rfl, fun j hj => ⟨rfl, trivial⟩, rfl, rfl, rfl, hSl.symm, rfl, rfl, trivial⟩ ?_ (fun _ _ => trivial) ?_
  · refine ⟨rfl, fun j hj => eqC_win0 (fun i hi => rfl) j, ?_⟩
    (repeat first | exact trivial | refine ⟨rfl, ?_⟩ | refine ⟨fun _ _ => ⟨rfl, trivial⟩, ?_⟩ | refine ⟨fun _ _ => trivial, ?_⟩ | refine ⟨by omega, ?_⟩ | refine ⟨fun _ _ => eqC_winS, ?_⟩ | refine ⟨fun _ _ => eqC_winM, ?_⟩ | refine ⟨fun _ _ => eqC_winB, ?_⟩ | refine ⟨fun _ _ => eqC_selfB, ?_⟩ | refine ⟨fun _ _ => eqC_mpB, ?_⟩)
  rintro x hs' ⟨_, _, hgood⟩
  obtain ⟨z, N, dn', f', g', hd', hz, hz2, hN, rfl, rfl⟩ := hgood hl (by omega) (by decide) (by decide)
  obtain rfl := hz2 (by decide)
  have hN : 32 ≤ N := hN
  (repeat first | refine And.intro (by omega) ?_ | refine And.intro (by decide) ?_ | (with_reducible refine frc_parts (by first | omega | decide) ?_) | (with_reducible refine frc_bytesL (by first | omega | decide) ?_) | refine And.intro rfl ?_)
  refine sn_btsM (g := bk 7 [6, 1]) (N := N) (b := exF s (labT lab S 32)) ?_ hN (fun h => Bool.noConfusion h) (fun gx hg => ?_)
  · rfl
  (repeat first | refine And.intro (by omega) ?_ | refine And.intro (by decide) ?_ | (with_reducible refine frc_parts (by first | omega | decide) ?_) | (with_reducible refine frc_bytesL (by first | omega | decide) ?_) | refine And.intro rfl ?_)
  refine ⟨.a (.agg [.row 32 fun i => .w8 (exF s (labT lab S 32) i)]), [bts zd Nd od said.length (L said), shaT dn' 0 f' g'], ⟨[0, 1], ⟨rfl, rfl, rfl⟩, ?_⟩, rfl, dn', f', g', hd', rfl⟩
  (repeat first | exact trivial | refine ⟨rfl, ?_⟩ | refine ⟨fun _ _ => ⟨rfl, trivial⟩, ?_⟩ | refine ⟨fun _ _ => trivial, ?_⟩ | refine ⟨by omega, ?_⟩ | refine ⟨fun _ _ => eqC_winS, ?_⟩ | refine ⟨fun _ _ => eqC_winM, ?_⟩ | refine ⟨fun _ _ => eqC_winB, ?_⟩ | refine ⟨fun _ _ => eqC_selfB, ?_⟩ | refine ⟨fun _ _ => eqC_mpB, ?_⟩)
  refine ⟨fun j hj => eqC_w8 ?_, ?_⟩
  · show updN (fun _ => SC.w8 0) 0 32 gx j = _
    unfold updN
    rw [if_pos ⟨by omega, by omega⟩, Nat.sub_zero]
    exact hg j hj
  · (repeat first | exact trivial | refine ⟨rfl, ?_⟩ | refine ⟨fun _ _ => ⟨rfl, trivial⟩, ?_⟩ | refine ⟨fun _ _ => trivial, ?_⟩ | refine ⟨by omega, ?_⟩ | refine ⟨fun _ _ => eqC_winS, ?_⟩ | refine ⟨fun _ _ => eqC_winM, ?_⟩ | refine ⟨fun _ _ => eqC_winB, ?_⟩ | refine ⟨fun _ _ => eqC_selfB, ?_⟩ | refine ⟨fun _ _ => eqC_mpB, ?_⟩)
    refine eqC_bts ?_
    (repeat first | exact trivial | refine ⟨rfl, ?_⟩ | refine ⟨fun _ _ => ⟨rfl, trivial⟩, ?_⟩ | refine ⟨fun _ _ => trivial, ?_⟩ | refine ⟨by omega, ?_⟩ | refine ⟨fun _ _ => eqC_winS, ?_⟩ | refine ⟨fun _ _ => eqC_winM, ?_⟩ | refine ⟨fun _ _ => eqC_winB, ?_⟩ | refine ⟨fun _ _ => eqC_selfB, ?_⟩ | refine ⟨fun _ _ => eqC_mpB, ?_⟩)
set_option maxRecDepth 20000 in
theorem fn_rderive (zs zd : Bool) (Ns Nd os od cs cd : Nat) (s said : Bs) (lab : List UInt8) (hNs : os + s.length ≤ Ns) (hcs : s.length ≤ cs) (hzs : zs = true → s = []) (hNd : od + said.length ≤ Nd) (hcd : said.length ≤ cd) (hzd : zd = true → said = [])
    (hsl : s.length < 1000000) (hdl : said.length < 1000000) (hll : lab.length < 100000) :
    FnR Try.prog tds 30 2 [bts zs Ns os s.length (L s), bts zd Nd od said.length (L said)] [.c (.sn zs 0 0 os s.length cs), .c (.str lab), .c (.sn zd 1 0 od said.length cd)] (fun _ => True)
      (fun x hs => ∃ N c : Nat, 32 ≤ N ∧ 32 ≤ c ∧ x = .a (.c (.sl 2 0 0 32 c)) ∧ hs = [bts zs Ns os s.length (L s), bts zd Nd od said.length (L said), [.row N (winF 0 32 (exF s (labT lab (sumL said) 32)))]]) := by
  refine fn_of_body tds_ok follows_ Try.func30 rfl (t := .a (.c (.sn zs 0 0 os s.length cs)) :: .a (.c (.str lab)) :: .a (.c (.sn zd 1 0 od said.length cd)) :: anys (Try.f30.ntmps - 3)) rfl (fun w r0 hr _ => ?_)
  obtain ⟨x0, x1, rfl⟩ := len2' hr
  refine ⟨by kernel_rfl, call_same (fn_rsum zd Nd od cd said hNd hcd hzd (by omega)) [1] rfl (by (repeat first | exact trivial | refine ⟨rfl, ?_⟩ | refine ⟨fun _ _ => ⟨rfl, trivial⟩, ?_⟩ | refine ⟨fun _ _ => trivial, ?_⟩ | refine ⟨by omega, ?_⟩ | refine ⟨fun _ _ => eqC_winS, ?_⟩ | refine ⟨fun _ _ => eqC_winM, ?_⟩ | refine ⟨fun _ _ => eqC_winB, ?_⟩ | refine ⟨fun _ _ => eqC_selfB, ?_⟩ | refine ⟨fun _ _ => eqC_mpB, ?_⟩)) ?_ (fun _ _ => trivial) ?_⟩
  · exact eqC_bts trivial
  rintro x hs' ⟨c1, rfl, rfl, hc1⟩
  obtain ⟨S, hS⟩ : ∃ S, sumL said = S := ⟨_, rfl⟩
  have hSl : S.length = 32 := by rw [← hS, sumL_len]
  rw [hS]
  refine ⟨by kernel_rfl, call_same (fn_rlabel zs false Ns c1 os 0 cs c1 s S lab 32 hNs hcs hzs (by omega) (by omega) (fun h => Bool.noConfusion h) hsl (by omega) hll (by decide)) [0, 2] rfl ⟨rfl, rfl, rfl, rfl, rfl, rfl, rfl, hSl.symm, rfl, rfl, trivial⟩ ?_ (fun _ _ => trivial) ?_⟩
  · refine eqC_bts ?_
    exact ⟨rfl, fun j hj => eqC_winBM (by omega), trivial⟩
  rintro x hs' ⟨_, h1⟩
  obtain ⟨N, c, hN, hc, rfl, rfl⟩ := h1 (by decide)
  refine ⟨.a (.c (.sl 2 0 0 32 c)), [bts zs Ns os s.length (L s), bts zd Nd od said.length (L said), [.row N (winF 0 32 (exF s (labT lab S 32)))]], ⟨[0, 1, 3], ⟨rfl, rfl, rfl⟩, ?_⟩, N, c, hN, hc, rfl, rfl⟩
  (repeat first | exact trivial | refine ⟨rfl, ?_⟩ | refine ⟨fun _ _ => ⟨rfl, trivial⟩, ?_⟩ | refine ⟨fun _ _ => trivial, ?_⟩ | refine ⟨by omega, ?_⟩ | refine ⟨fun _ _ => eqC_winS, ?_⟩ | refine ⟨fun _ _ => eqC_winM, ?_⟩ | refine ⟨fun _ _ => eqC_winB, ?_⟩ | refine ⟨fun _ _ => eqC_selfB, ?_⟩ | refine ⟨fun _ _ => eqC_mpB, ?_⟩)
  refine eqC_bts (eqC_bts ?_)
  (repeat first | exact trivial | refine ⟨rfl, ?_⟩ | refine ⟨fun _ _ => ⟨rfl, trivial⟩, ?_⟩ | refine ⟨fun _ _ => trivial, ?_⟩ | refine ⟨by omega, ?_⟩ | refine ⟨fun _ _ => eqC_winS, ?_⟩ | refine ⟨fun _ _ => eqC_winM, ?_⟩ | refine ⟨fun _ _ => eqC_winB, ?_⟩ | refine ⟨fun _ _ => eqC_selfB, ?_⟩ | refine ⟨fun _ _ => eqC_mpB, ?_⟩)
end Sx
end Go.Proofs.Ytndlhhhebijknaa
end

section
/-
  Secrets out of secrets: the law of labels. No condition.
-/
namespace Go.Proofs.Ytndlhhhebijknaa
set_option linter.unusedVariables false
namespace Sx
open Sha

theorem is_rowL {r : Rho} {n : Nat} {f : Nat → BitVec 8} : SA.Is r (.agg [.row n fun i => .w8 (L (tab n f) i)]) (.agg ((List.range n).map fun i => Value.int .u8 ((f i).toNat : Int)).toArray) := by
  have e : ((List.range n).map fun i => Value.int .u8 ((f i).toNat : Int)) = (List.range n).map fun i => Value.int .u8 ((L (tab n f) i).toNat : Int) :=
    List.map_congr_left fun i hi => by rw [L_tab (List.mem_range.1 hi)]
  rw [e]
  exact is_row
set_option maxRecDepth 20000 in
set_option maxHeartbeats 2000000 in
theorem fn_kdfLabels (zc : Bool) (cc : Nat) (s ctx : Bs) (lab : List UInt8) (m : BitVec 8) (far : Int) (hs : s.length = 32) (hcc : ctx.length ≤ cc) (hzc : zc = true → ctx = []) :
    FnR Try.prog tds 7 1 [bts zc ctx.length 0 ctx.length (L ctx)] [.agg [.row 32 fun i => .w8 (L s i)], .c (.str lab), .c (.sn zc 0 0 0 ctx.length cc), .c (.w8 m), .c (.int .i64 far)] (fun _ => True) (fun x _ => x = .a (.c (.bool true))) := by
  refine fn_of_body tds_ok follows_ Try.func7 rfl (t := [.a (.agg [.row 32 fun i => .w8 (L s i)]), .a (.c (.str (lab))), .a (.c (.sn zc 0 0 0 ctx.length cc)), .a (.c (.w8 (m))), .a (.c (.int .i64 (far))), .any, .any, .any, .any, .any, .any, .any, .any, .any, .any, .any, .any, .any, .any, .any, .any, .any, .any, .any, .any, .any, .any, .any, .any, .any, .any, .any, .any, .any, .any, .any, .any, .any, .any, .any, .any, .any, .any, .any, .any, .any, .any, .any, .any, .any, .any, .any, .any, .any, .any, .any, .any, .any, .any, .any, .any, .any, .any, .any, .any, .any, .any, .any, .any, .any, .any, .any, .any, .any, .any, .any, .any, .any, .any, .any, .any, .any, .any, .any, .any, .any, .any, .any, .any, .any, .any, .any, .any, .any, .any, .any, .any, .any, .any, .any]) rfl (fun w r0 hr _ => ?_)
  obtain ⟨x0, rfl⟩ := List.length_eq_one_iff.1 hr
  (repeat first | refine And.intro (by omega) ?_ | refine And.intro (by decide) ?_ | (with_reducible refine frc_parts (by first | omega | decide) ?_) | (with_reducible refine frc_bytesL (by first | omega | decide) ?_) | refine And.intro rfl ?_)
  refine call_same fn_awake4 [] rfl trivial trivial (fun _ _ => trivial) ?_
  rintro x hs' ⟨rfl, rfl⟩
  refine ⟨fun h => Bool.noConfusion h, fun _ => ?_⟩
  by_cases h0 : 300 < lab.length
  · have e0 : decide ((300 : Int) < (lab.length : Int)) = true := decide_eq_true (by omega)
    (repeat first | refine And.intro (by omega) ?_ | refine And.intro (by decide) ?_ | refine And.intro rfl ?_ | refine And.intro (fun _ => ?_) (fun h => Bool.noConfusion h) | refine And.intro (fun h => Bool.noConfusion h) (fun _ => ?_) | refine And.intro (fun _ => ?_) (fun h => absurd h (by rw [e0]; decide)) | refine And.intro (fun h => absurd h (by rw [e0]; decide)) (fun _ => ?_))
    exact ⟨.a (.c (.bool true)), [[]], ⟨[0], ⟨rfl, rfl, rfl⟩, rfl, eqSegs_nil trivial⟩, rfl⟩
  have e0 : decide ((300 : Int) < (lab.length : Int)) = false := decide_eq_false (by omega)
  by_cases h1 : 300 < ctx.length
  · have e1 : decide ((300 : Int) < (ctx.length : Int)) = true := decide_eq_true (by omega)
    (repeat first | refine And.intro (by omega) ?_ | refine And.intro (by decide) ?_ | refine And.intro rfl ?_ | refine And.intro (fun _ => ?_) (fun h => Bool.noConfusion h) | refine And.intro (fun h => Bool.noConfusion h) (fun _ => ?_) | refine And.intro (fun _ => ?_) (fun h => absurd h (by rw [e0]; decide)) | refine And.intro (fun h => absurd h (by rw [e0]; decide)) (fun _ => ?_) | refine And.intro (fun _ => ?_) (fun h => absurd h (by rw [e1]; decide)) | refine And.intro (fun h => absurd h (by rw [e1]; decide)) (fun _ => ?_))
    exact ⟨.a (.c (.bool true)), [[]], ⟨[0], ⟨rfl, rfl, rfl⟩, rfl, eqSegs_nil trivial⟩, rfl⟩
  have e1 : decide ((300 : Int) < (ctx.length : Int)) = false := decide_eq_false (by omega)
  (repeat first | refine And.intro (by omega) ?_ | refine And.intro (by decide) ?_ | refine And.intro rfl ?_ | refine And.intro (fun _ => ?_) (fun h => Bool.noConfusion h) | refine And.intro (fun h => Bool.noConfusion h) (fun _ => ?_) | refine And.intro (fun _ => ?_) (fun h => absurd h (by rw [e0]; decide)) | refine And.intro (fun h => absurd h (by rw [e0]; decide)) (fun _ => ?_) | refine And.intro (fun _ => ?_) (fun h => absurd h (by rw [e1]; decide)) | refine And.intro (fun h => absurd h (by rw [e1]; decide)) (fun _ => ?_))
  refine call_same fn_knew [] rfl trivial trivial (fun _ _ => trivial) ?_
  rintro x hs' ⟨rfl, rfl⟩
  (repeat first | refine And.intro (by omega) ?_ | refine And.intro (by decide) ?_ | (with_reducible refine frc_parts (by first | omega | decide) ?_) | (with_reducible refine frc_bytesL (by first | omega | decide) ?_) | refine And.intro rfl ?_)
  obtain ⟨n, hn⟩ : ∃ n, m.toNat % 100 = n := ⟨_, rfl⟩
  have en : ((m.toNat : Nat) : Int) % 100 = (n : Int) := by omega
  rw [en]
  have hn99 : n < 100 := by omega
  have hn0 : (0 : Int) ≤ (n : Int) := by omega
  have hn1 : (n : Int) ≤ 8160 := by omega
  refine call_same (fn_klabel zc ctx.length 0 cc s ctx lab (n : Int) 0 (fun _ => 0) (fun _ => 0) (.inl rfl) hs (by omega) hcc hzc) [0, 2] rfl ⟨rfl, rfl, rfl, fun j hj => ⟨rfl, trivial⟩, rfl, rfl, rfl, rfl, rfl, rfl, trivial⟩ ?_ (fun _ _ => trivial) ?_
  · refine eqC_bts ?_
    (repeat first | exact trivial | refine ⟨rfl, ?_⟩ | refine ⟨fun _ _ => ⟨rfl, trivial⟩, ?_⟩ | refine ⟨fun _ _ => trivial, ?_⟩ | refine ⟨by omega, ?_⟩ | refine ⟨fun _ _ => eqC_winS, ?_⟩ | refine ⟨fun _ _ => eqC_winM, ?_⟩ | refine ⟨fun _ _ => eqC_winB, ?_⟩ | refine ⟨fun _ _ => eqC_selfB, ?_⟩ | refine ⟨fun _ _ => eqC_mpB, ?_⟩)
  rintro x hs' ⟨hbad, -, hgood⟩
  by_cases h2 : 249 < lab.length ∨ 255 < ctx.length
  · obtain ⟨rfl, rfl⟩ := hbad h2
    clear hbad hgood
    (repeat first | refine And.intro (by omega) ?_ | refine And.intro (by decide) ?_ | (with_reducible refine frc_parts (by first | omega | decide) ?_) | (with_reducible refine frc_bytesL (by first | omega | decide) ?_) | refine And.intro rfl ?_)
    refine call_same (fn_klabel zc ctx.length 0 cc s ctx lab far 0 (fun _ => 0) (fun _ => 0) (.inl rfl) hs (by omega) hcc hzc) [0, 2] rfl ⟨rfl, rfl, rfl, fun j hj => ⟨rfl, trivial⟩, rfl, rfl, rfl, rfl, rfl, rfl, trivial⟩ ?_ (fun _ _ => trivial) ?_
    · refine eqC_bts ?_
      (repeat first | exact trivial | refine ⟨rfl, ?_⟩ | refine ⟨fun _ _ => ⟨rfl, trivial⟩, ?_⟩ | refine ⟨fun _ _ => trivial, ?_⟩ | refine ⟨by omega, ?_⟩ | refine ⟨fun _ _ => eqC_winS, ?_⟩ | refine ⟨fun _ _ => eqC_winM, ?_⟩ | refine ⟨fun _ _ => eqC_winB, ?_⟩ | refine ⟨fun _ _ => eqC_selfB, ?_⟩ | refine ⟨fun _ _ => eqC_mpB, ?_⟩)
    rintro x hs' ⟨hbad, -, -⟩
    obtain ⟨rfl, rfl⟩ := hbad h2
    clear hbad
    (repeat first | refine And.intro (by omega) ?_ | refine And.intro (by decide) ?_ | (with_reducible refine frc_parts (by first | omega | decide) ?_) | (with_reducible refine frc_bytesL (by first | omega | decide) ?_) | refine And.intro rfl ?_)
    by_cases h3 : 249 < lab.length
    · have e2 : decide ((249 : Int) < (lab.length : Int)) = true := decide_eq_true (by omega)
      (repeat first | refine And.intro (by omega) ?_ | refine And.intro (by decide) ?_ | refine And.intro rfl ?_ | refine And.intro (fun _ => ?_) (fun h => Bool.noConfusion h) | refine And.intro (fun h => Bool.noConfusion h) (fun _ => ?_) | refine And.intro (fun _ => ?_) (fun h => absurd h (by rw [e2]; decide)) | refine And.intro (fun h => absurd h (by rw [e2]; decide)) (fun _ => ?_))
      exact ⟨.a (.c (.bool true)), [[]], ⟨[0], ⟨rfl, rfl, rfl⟩, rfl, eqSegs_nil trivial⟩, rfl⟩
    · have e2 : decide ((249 : Int) < (lab.length : Int)) = false := decide_eq_false (by omega)
      have e3 : decide ((255 : Int) < (ctx.length : Int)) = true := decide_eq_true (by omega)
      (repeat first | refine And.intro (by omega) ?_ | refine And.intro (by decide) ?_ | refine And.intro rfl ?_ | refine And.intro (fun _ => ?_) (fun h => Bool.noConfusion h) | refine And.intro (fun h => Bool.noConfusion h) (fun _ => ?_) | refine And.intro (fun _ => ?_) (fun h => absurd h (by rw [e2]; decide)) | refine And.intro (fun h => absurd h (by rw [e2]; decide)) (fun _ => ?_) | refine And.intro (fun _ => ?_) (fun h => absurd h (by rw [e3]; decide)) | refine And.intro (fun h => absurd h (by rw [e3]; decide)) (fun _ => ?_))
      exact ⟨.a (.c (.bool true)), [[]], ⟨[0], ⟨rfl, rfl, rfl⟩, rfl, eqSegs_nil trivial⟩, rfl⟩
  have a1 : lab.length ≤ 249 := Nat.le_of_not_lt fun h => h2 (.inl h)
  have a2 : ctx.length ≤ 255 := Nat.le_of_not_lt fun h => h2 (.inr h)
  obtain ⟨z, N, dn', f', g', hd', hz, hz2, hN, rfl, rfl⟩ := hgood a1 a2 hn0 hn1
  clear hbad hgood
  have et : ((n : Nat) : Int).toNat = n := by omega
  rw [et] at hz hN
  rw [et]
  (repeat first | refine And.intro (by omega) ?_ | refine And.intro (by decide) ?_ | (with_reducible refine frc_parts (by first | omega | decide) ?_) | (with_reducible refine frc_bytesL (by first | omega | decide) ?_) | refine And.intro rfl ?_)
  refine call_same (fn_klabel zc ctx.length 0 cc s ctx lab far dn' f' g' hd' hs (by omega) hcc hzc) [0, 2] rfl ⟨rfl, rfl, rfl, fun j hj => ⟨rfl, trivial⟩, rfl, rfl, rfl, rfl, rfl, rfl, trivial⟩ ?_ (fun _ _ => trivial) ?_
  · refine eqC_bts ?_
    (repeat first | exact trivial | refine ⟨rfl, ?_⟩ | refine ⟨fun _ _ => ⟨rfl, trivial⟩, ?_⟩ | refine ⟨fun _ _ => trivial, ?_⟩ | refine ⟨by omega, ?_⟩ | refine ⟨fun _ _ => eqC_winS, ?_⟩ | refine ⟨fun _ _ => eqC_winM, ?_⟩ | refine ⟨fun _ _ => eqC_winB, ?_⟩ | refine ⟨fun _ _ => eqC_selfB, ?_⟩ | refine ⟨fun _ _ => eqC_mpB, ?_⟩)
  have e2 : decide ((249 : Int) < (lab.length : Int)) = false := decide_eq_false (by omega)
  have e3 : decide ((255 : Int) < (ctx.length : Int)) = false := decide_eq_false (by omega)
  obtain ⟨F, hF⟩ : ∃ F, exF s (labT lab ctx n) = F := ⟨_, rfl⟩
  have hlab := fn_rlabel false zc 32 ctx.length 0 0 32 cc s ctx lab n (by omega) (by omega) (fun h => Bool.noConfusion h) (by omega) hcc hzc (by omega) (by omega) (by omega) (by omega)
  rw [hF] at hlab
  rw [hF]
  rintro x hs' ⟨-, hbad2, hgood2⟩
  by_cases hf : 0 ≤ far ∧ far ≤ 8160
  · obtain ⟨z2, N2, dn2, f2, g2, hd2, hz22, hz222, hN2, rfl, rfl⟩ := hgood2 a1 a2 hf.1 hf.2
    clear hbad2 hgood2
    have e4 : decide (0 ≤ far) = true := decide_eq_true hf.1
    have e5 : decide (far ≤ 8160) = true := decide_eq_true hf.2
    have e7 : (decide ((0 : Int) = 0) == decide (far ≤ 8160)) = true := by rw [e5]; rfl
    (repeat first | refine And.intro (by omega) ?_ | refine And.intro (by decide) ?_ | refine And.intro rfl ?_ | refine And.intro (fun _ => ?_) (fun h => Bool.noConfusion h) | refine And.intro (fun h => Bool.noConfusion h) (fun _ => ?_) | refine And.intro (fun _ => ?_) (fun h => absurd h (by rw [e2]; decide)) | refine And.intro (fun h => absurd h (by rw [e2]; decide)) (fun _ => ?_) | refine And.intro (fun _ => ?_) (fun h => absurd h (by rw [e3]; decide)) | refine And.intro (fun h => absurd h (by rw [e3]; decide)) (fun _ => ?_))
    refine ⟨none, [], [(0, true), (1, true), (2, true), (3, true), (4, true), (5, true), (6, true), (7, true), (8, true), (9, true), (10, true), (11, false), (12, true), (13, true), (14, true), (15, true), (16, true), (17, true), (18, true), (19, true), (20, true), (21, true), (22, true), (23, true), (24, true), (25, true), (26, true), (27, true), (28, true), (29, true), (30, true), (31, true), (32, true), (33, true), (34, true)], [], by kernel_rfl, ?_⟩
    (repeat first | refine And.intro (by omega) ?_ | refine And.intro (by decide) ?_ | refine And.intro rfl ?_ | refine And.intro (fun _ => ?_) (fun h => Bool.noConfusion h) | refine And.intro (fun h => Bool.noConfusion h) (fun _ => ?_) | refine And.intro (fun _ => ?_) (fun h => absurd h (by rw [e2]; decide)) | refine And.intro (fun h => absurd h (by rw [e2]; decide)) (fun _ => ?_) | refine And.intro (fun _ => ?_) (fun h => absurd h (by rw [e3]; decide)) | refine And.intro (fun h => absurd h (by rw [e3]; decide)) (fun _ => ?_))
    refine sn_btsM (g := bk 3 [0, 2]) (N := N) (b := F) ?_ (by omega) hz (fun gx hg => ?_)
    · rfl
    refine ⟨U8 (tab n F), str_of (tab_len n F) (fun q hq => by rw [hg q hq, L_tab hq]), ?_⟩
    (repeat first | refine And.intro (by omega) ?_ | refine And.intro (by decide) ?_ | refine And.intro rfl ?_ | refine And.intro (fun _ => ?_) (fun h => Bool.noConfusion h) | refine And.intro (fun h => Bool.noConfusion h) (fun _ => ?_) | refine And.intro (fun _ => ?_) (fun h => absurd h (by rw [e2]; decide)) | refine And.intro (fun h => absurd h (by rw [e2]; decide)) (fun _ => ?_) | refine And.intro (fun _ => ?_) (fun h => absurd h (by rw [e3]; decide)) | refine And.intro (fun h => absurd h (by rw [e3]; decide)) (fun _ => ?_))
    rw [en]
    refine call_same hlab [1, 0] rfl ⟨rfl, rfl, hs.symm, rfl, rfl, rfl, rfl, rfl, rfl, rfl, trivial⟩ ?_ (fun _ _ => trivial) ?_
    · exact ⟨rfl, fun j hj => eqC_win0 (fun i hi => rfl) j, eqC_bts trivial⟩
    rintro x hs' ⟨g0, g1⟩
    by_cases hn0' : n = 0
    · obtain ⟨rfl, rfl⟩ := g0 hn0'
      clear g0 g1 hlab
      have hu : U8 (tab n F) = [] := by rw [hn0']; rfl
      rw [hu]
      have e8 : decide (([] : List UInt8) = []) = true := rfl
      (repeat first | refine And.intro (by omega) ?_ | refine And.intro (by decide) ?_ | refine And.intro rfl ?_ | refine And.intro (fun _ => ?_) (fun h => Bool.noConfusion h) | refine And.intro (fun h => Bool.noConfusion h) (fun _ => ?_) | refine And.intro (fun _ => ?_) (fun h => absurd h (by rw [e2]; decide)) | refine And.intro (fun h => absurd h (by rw [e2]; decide)) (fun _ => ?_) | refine And.intro (fun _ => ?_) (fun h => absurd h (by rw [e3]; decide)) | refine And.intro (fun h => absurd h (by rw [e3]; decide)) (fun _ => ?_) | refine And.intro (fun _ => ?_) (fun h => absurd h (by rw [e4]; decide)) | refine And.intro (fun h => absurd h (by rw [e4]; decide)) (fun _ => ?_) | refine And.intro (fun _ => ?_) (fun h => absurd h (by rw [e5]; decide)) | refine And.intro (fun h => absurd h (by rw [e5]; decide)) (fun _ => ?_) | refine And.intro (fun _ => ?_) (fun h => absurd h (by rw [e7]; decide)) | refine And.intro (fun h => absurd h (by rw [e7]; decide)) (fun _ => ?_))
      refine ⟨[], ⟨rfl, fun q hq => absurd hq (by omega)⟩, ?_⟩
      (repeat first | refine And.intro (by omega) ?_ | refine And.intro (by decide) ?_ | refine And.intro rfl ?_ | refine And.intro (fun _ => ?_) (fun h => Bool.noConfusion h) | refine And.intro (fun h => Bool.noConfusion h) (fun _ => ?_) | refine And.intro (fun _ => ?_) (fun h => absurd h (by rw [e2]; decide)) | refine And.intro (fun h => absurd h (by rw [e2]; decide)) (fun _ => ?_) | refine And.intro (fun _ => ?_) (fun h => absurd h (by rw [e3]; decide)) | refine And.intro (fun h => absurd h (by rw [e3]; decide)) (fun _ => ?_) | refine And.intro (fun _ => ?_) (fun h => absurd h (by rw [e4]; decide)) | refine And.intro (fun h => absurd h (by rw [e4]; decide)) (fun _ => ?_) | refine And.intro (fun _ => ?_) (fun h => absurd h (by rw [e5]; decide)) | refine And.intro (fun h => absurd h (by rw [e5]; decide)) (fun _ => ?_) | refine And.intro (fun _ => ?_) (fun h => absurd h (by rw [e7]; decide)) | refine And.intro (fun h => absurd h (by rw [e7]; decide)) (fun _ => ?_) | refine And.intro (fun _ => ?_) (fun h => absurd h (by rw [e8]; decide)) | refine And.intro (fun h => absurd h (by rw [e8]; decide)) (fun _ => ?_))
      exact ⟨.a (.c (.bool true)), [[]], ⟨[0], ⟨rfl, rfl, rfl⟩, rfl, eqSegs_nil trivial⟩, rfl⟩
    obtain ⟨N9, c9, hN9, hc9, rfl, rfl⟩ := g1 (Nat.pos_of_ne_zero hn0')
    clear g0 g1 hlab
    have e8 : decide (U8 (tab n F) = U8 (tab n F)) = true := decide_eq_true rfl
    (repeat first | refine And.intro (by omega) ?_ | refine And.intro (by decide) ?_ | refine And.intro rfl ?_ | refine And.intro (fun _ => ?_) (fun h => Bool.noConfusion h) | refine And.intro (fun h => Bool.noConfusion h) (fun _ => ?_) | refine And.intro (fun _ => ?_) (fun h => absurd h (by rw [e2]; decide)) | refine And.intro (fun h => absurd h (by rw [e2]; decide)) (fun _ => ?_) | refine And.intro (fun _ => ?_) (fun h => absurd h (by rw [e3]; decide)) | refine And.intro (fun h => absurd h (by rw [e3]; decide)) (fun _ => ?_) | refine And.intro (fun _ => ?_) (fun h => absurd h (by rw [e4]; decide)) | refine And.intro (fun h => absurd h (by rw [e4]; decide)) (fun _ => ?_) | refine And.intro (fun _ => ?_) (fun h => absurd h (by rw [e5]; decide)) | refine And.intro (fun h => absurd h (by rw [e5]; decide)) (fun _ => ?_) | refine And.intro (fun _ => ?_) (fun h => absurd h (by rw [e7]; decide)) | refine And.intro (fun h => absurd h (by rw [e7]; decide)) (fun _ => ?_))
    refine And.intro (by simp only [scale]; omega) ?_
    refine ⟨U8 (tab n F), str_of (tab_len n F) (fun q hq => ?_), ?_⟩
    · show SC.mp _ (winF 0 n F (q + 0)) = _
      have := winF_at 0 n F hq
      rw [Nat.zero_add] at this
      rw [Nat.add_zero, this, L_tab hq]
      rfl
    (repeat first | refine And.intro (by omega) ?_ | refine And.intro (by decide) ?_ | refine And.intro rfl ?_ | refine And.intro (fun _ => ?_) (fun h => Bool.noConfusion h) | refine And.intro (fun h => Bool.noConfusion h) (fun _ => ?_) | refine And.intro (fun _ => ?_) (fun h => absurd h (by rw [e2]; decide)) | refine And.intro (fun h => absurd h (by rw [e2]; decide)) (fun _ => ?_) | refine And.intro (fun _ => ?_) (fun h => absurd h (by rw [e3]; decide)) | refine And.intro (fun h => absurd h (by rw [e3]; decide)) (fun _ => ?_) | refine And.intro (fun _ => ?_) (fun h => absurd h (by rw [e4]; decide)) | refine And.intro (fun h => absurd h (by rw [e4]; decide)) (fun _ => ?_) | refine And.intro (fun _ => ?_) (fun h => absurd h (by rw [e5]; decide)) | refine And.intro (fun h => absurd h (by rw [e5]; decide)) (fun _ => ?_) | refine And.intro (fun _ => ?_) (fun h => absurd h (by rw [e7]; decide)) | refine And.intro (fun h => absurd h (by rw [e7]; decide)) (fun _ => ?_) | refine And.intro (fun _ => ?_) (fun h => absurd h (by rw [e8]; decide)) | refine And.intro (fun h => absurd h (by rw [e8]; decide)) (fun _ => ?_))
    exact ⟨.a (.c (.bool true)), [[]], ⟨[0], ⟨rfl, rfl, rfl⟩, rfl, eqSegs_nil trivial⟩, rfl⟩
  · have hf2 : far < 0 ∨ 8160 < far := by
      rcases Int.lt_or_le far 0 with h | h
      · exact .inl h
      · exact .inr (Int.not_le.1 fun h' => hf ⟨h, h'⟩)
    obtain ⟨rfl, rfl⟩ := hbad2 a1 a2 hf2
    clear hbad2 hgood2
    by_cases hf3 : 0 ≤ far
    · have e4 : decide (0 ≤ far) = true := decide_eq_true hf3
      have e5 : decide (far ≤ 8160) = false := decide_eq_false (by omega)
      have e7 : (decide ((2 : Int) = 0) == decide (far ≤ 8160)) = true := by rw [e5]; rfl
      (repeat first | refine And.intro (by omega) ?_ | refine And.intro (by decide) ?_ | refine And.intro rfl ?_ | refine And.intro (fun _ => ?_) (fun h => Bool.noConfusion h) | refine And.intro (fun h => Bool.noConfusion h) (fun _ => ?_) | refine And.intro (fun _ => ?_) (fun h => absurd h (by rw [e2]; decide)) | refine And.intro (fun h => absurd h (by rw [e2]; decide)) (fun _ => ?_) | refine And.intro (fun _ => ?_) (fun h => absurd h (by rw [e3]; decide)) | refine And.intro (fun h => absurd h (by rw [e3]; decide)) (fun _ => ?_))
      refine ⟨none, [], [(0, true), (1, true), (2, true), (3, true), (4, true), (5, true), (6, true), (7, true), (8, true), (9, true), (10, true), (11, false), (12, true), (13, true), (14, true), (15, true), (16, true), (17, true), (18, true), (19, true), (20, true), (21, true), (22, true), (23, true), (24, true), (25, true), (26, true), (27, true), (28, true), (29, true), (30, true), (31, true), (32, true), (33, true), (34, true)], [], by kernel_rfl, ?_⟩
      (repeat first | refine And.intro (by omega) ?_ | refine And.intro (by decide) ?_ | refine And.intro rfl ?_ | refine And.intro (fun _ => ?_) (fun h => Bool.noConfusion h) | refine And.intro (fun h => Bool.noConfusion h) (fun _ => ?_) | refine And.intro (fun _ => ?_) (fun h => absurd h (by rw [e2]; decide)) | refine And.intro (fun h => absurd h (by rw [e2]; decide)) (fun _ => ?_) | refine And.intro (fun _ => ?_) (fun h => absurd h (by rw [e3]; decide)) | refine And.intro (fun h => absurd h (by rw [e3]; decide)) (fun _ => ?_))
      refine sn_btsM (g := bk 3 [0, 2]) (N := N) (b := F) ?_ (by omega) hz (fun gx hg => ?_)
      · rfl
      refine ⟨U8 (tab n F), str_of (tab_len n F) (fun q hq => by rw [hg q hq, L_tab hq]), ?_⟩
      (repeat first | refine And.intro (by omega) ?_ | refine And.intro (by decide) ?_ | refine And.intro rfl ?_ | refine And.intro (fun _ => ?_) (fun h => Bool.noConfusion h) | refine And.intro (fun h => Bool.noConfusion h) (fun _ => ?_) | refine And.intro (fun _ => ?_) (fun h => absurd h (by rw [e2]; decide)) | refine And.intro (fun h => absurd h (by rw [e2]; decide)) (fun _ => ?_) | refine And.intro (fun _ => ?_) (fun h => absurd h (by rw [e3]; decide)) | refine And.intro (fun h => absurd h (by rw [e3]; decide)) (fun _ => ?_))
      rw [en]
      refine call_same hlab [1, 0] rfl ⟨rfl, rfl, hs.symm, rfl, rfl, rfl, rfl, rfl, rfl, rfl, trivial⟩ ?_ (fun _ _ => trivial) ?_
      · exact ⟨rfl, fun j hj => eqC_win0 (fun i hi => rfl) j, eqC_bts trivial⟩
      rintro x hs' ⟨g0, g1⟩
      by_cases hn0' : n = 0
      · obtain ⟨rfl, rfl⟩ := g0 hn0'
        clear g0 g1 hlab
        have hu : U8 (tab n F) = [] := by rw [hn0']; rfl
        rw [hu]
        have e8 : decide (([] : List UInt8) = []) = true := rfl
        (repeat first | refine And.intro (by omega) ?_ | refine And.intro (by decide) ?_ | refine And.intro rfl ?_ | refine And.intro (fun _ => ?_) (fun h => Bool.noConfusion h) | refine And.intro (fun h => Bool.noConfusion h) (fun _ => ?_) | refine And.intro (fun _ => ?_) (fun h => absurd h (by rw [e2]; decide)) | refine And.intro (fun h => absurd h (by rw [e2]; decide)) (fun _ => ?_) | refine And.intro (fun _ => ?_) (fun h => absurd h (by rw [e3]; decide)) | refine And.intro (fun h => absurd h (by rw [e3]; decide)) (fun _ => ?_) | refine And.intro (fun _ => ?_) (fun h => absurd h (by rw [e4]; decide)) | refine And.intro (fun h => absurd h (by rw [e4]; decide)) (fun _ => ?_) | refine And.intro (fun _ => ?_) (fun h => absurd h (by rw [e5]; decide)) | refine And.intro (fun h => absurd h (by rw [e5]; decide)) (fun _ => ?_) | refine And.intro (fun _ => ?_) (fun h => absurd h (by rw [e7]; decide)) | refine And.intro (fun h => absurd h (by rw [e7]; decide)) (fun _ => ?_))
        refine ⟨[], ⟨rfl, fun q hq => absurd hq (by omega)⟩, ?_⟩
        (repeat first | refine And.intro (by omega) ?_ | refine And.intro (by decide) ?_ | refine And.intro rfl ?_ | refine And.intro (fun _ => ?_) (fun h => Bool.noConfusion h) | refine And.intro (fun h => Bool.noConfusion h) (fun _ => ?_) | refine And.intro (fun _ => ?_) (fun h => absurd h (by rw [e2]; decide)) | refine And.intro (fun h => absurd h (by rw [e2]; decide)) (fun _ => ?_) | refine And.intro (fun _ => ?_) (fun h => absurd h (by rw [e3]; decide)) | refine And.intro (fun h => absurd h (by rw [e3]; decide)) (fun _ => ?_) | refine And.intro (fun _ => ?_) (fun h => absurd h (by rw [e4]; decide)) | refine And.intro (fun h => absurd h (by rw [e4]; decide)) (fun _ => ?_) | refine And.intro (fun _ => ?_) (fun h => absurd h (by rw [e5]; decide)) | refine And.intro (fun h => absurd h (by rw [e5]; decide)) (fun _ => ?_) | refine And.intro (fun _ => ?_) (fun h => absurd h (by rw [e7]; decide)) | refine And.intro (fun h => absurd h (by rw [e7]; decide)) (fun _ => ?_) | refine And.intro (fun _ => ?_) (fun h => absurd h (by rw [e8]; decide)) | refine And.intro (fun h => absurd h (by rw [e8]; decide)) (fun _ => ?_))
        exact ⟨.a (.c (.bool true)), [[]], ⟨[0], ⟨rfl, rfl, rfl⟩, rfl, eqSegs_nil trivial⟩, rfl⟩
      obtain ⟨N9, c9, hN9, hc9, rfl, rfl⟩ := g1 (Nat.pos_of_ne_zero hn0')
      clear g0 g1 hlab
      have e8 : decide (U8 (tab n F) = U8 (tab n F)) = true := decide_eq_true rfl
      (repeat first | refine And.intro (by omega) ?_ | refine And.intro (by decide) ?_ | refine And.intro rfl ?_ | refine And.intro (fun _ => ?_) (fun h => Bool.noConfusion h) | refine And.intro (fun h => Bool.noConfusion h) (fun _ => ?_) | refine And.intro (fun _ => ?_) (fun h => absurd h (by rw [e2]; decide)) | refine And.intro (fun h => absurd h (by rw [e2]; decide)) (fun _ => ?_) | refine And.intro (fun _ => ?_) (fun h => absurd h (by rw [e3]; decide)) | refine And.intro (fun h => absurd h (by rw [e3]; decide)) (fun _ => ?_) | refine And.intro (fun _ => ?_) (fun h => absurd h (by rw [e4]; decide)) | refine And.intro (fun h => absurd h (by rw [e4]; decide)) (fun _ => ?_) | refine And.intro (fun _ => ?_) (fun h => absurd h (by rw [e5]; decide)) | refine And.intro (fun h => absurd h (by rw [e5]; decide)) (fun _ => ?_) | refine And.intro (fun _ => ?_) (fun h => absurd h (by rw [e7]; decide)) | refine And.intro (fun h => absurd h (by rw [e7]; decide)) (fun _ => ?_))
      refine And.intro (by simp only [scale]; omega) ?_
      refine ⟨U8 (tab n F), str_of (tab_len n F) (fun q hq => ?_), ?_⟩
      · show SC.mp _ (winF 0 n F (q + 0)) = _
        have := winF_at 0 n F hq
        rw [Nat.zero_add] at this
        rw [Nat.add_zero, this, L_tab hq]
        rfl
      (repeat first | refine And.intro (by omega) ?_ | refine And.intro (by decide) ?_ | refine And.intro rfl ?_ | refine And.intro (fun _ => ?_) (fun h => Bool.noConfusion h) | refine And.intro (fun h => Bool.noConfusion h) (fun _ => ?_) | refine And.intro (fun _ => ?_) (fun h => absurd h (by rw [e2]; decide)) | refine And.intro (fun h => absurd h (by rw [e2]; decide)) (fun _ => ?_) | refine And.intro (fun _ => ?_) (fun h => absurd h (by rw [e3]; decide)) | refine And.intro (fun h => absurd h (by rw [e3]; decide)) (fun _ => ?_) | refine And.intro (fun _ => ?_) (fun h => absurd h (by rw [e4]; decide)) | refine And.intro (fun h => absurd h (by rw [e4]; decide)) (fun _ => ?_) | refine And.intro (fun _ => ?_) (fun h => absurd h (by rw [e5]; decide)) | refine And.intro (fun h => absurd h (by rw [e5]; decide)) (fun _ => ?_) | refine And.intro (fun _ => ?_) (fun h => absurd h (by rw [e7]; decide)) | refine And.intro (fun h => absurd h (by rw [e7]; decide)) (fun _ => ?_) | refine And.intro (fun _ => ?_) (fun h => absurd h (by rw [e8]; decide)) | refine And.intro (fun h => absurd h (by rw [e8]; decide)) (fun _ => ?_))
      exact ⟨.a (.c (.bool true)), [[]], ⟨[0], ⟨rfl, rfl, rfl⟩, rfl, eqSegs_nil trivial⟩, rfl⟩
    · have e4 : decide (0 ≤ far) = false := decide_eq_false hf3
      have e7 : (decide ((2 : Int) = 0) == false) = true := rfl
      (repeat first | refine And.intro (by omega) ?_ | refine And.intro (by decide) ?_ | refine And.intro rfl ?_ | refine And.intro (fun _ => ?_) (fun h => Bool.noConfusion h) | refine And.intro (fun h => Bool.noConfusion h) (fun _ => ?_) | refine And.intro (fun _ => ?_) (fun h => absurd h (by rw [e2]; decide)) | refine And.intro (fun h => absurd h (by rw [e2]; decide)) (fun _ => ?_) | refine And.intro (fun _ => ?_) (fun h => absurd h (by rw [e3]; decide)) | refine And.intro (fun h => absurd h (by rw [e3]; decide)) (fun _ => ?_))
      refine ⟨none, [], [(0, true), (1, true), (2, true), (3, true), (4, true), (5, true), (6, true), (7, true), (8, true), (9, true), (10, true), (11, false), (12, true), (13, true), (14, true), (15, true), (16, true), (17, true), (18, true), (19, true), (20, true), (21, true), (22, true), (23, true), (24, true), (25, true), (26, true), (27, true), (28, true), (29, true), (30, true), (31, true), (32, true), (33, true), (34, true)], [], by kernel_rfl, ?_⟩
      (repeat first | refine And.intro (by omega) ?_ | refine And.intro (by decide) ?_ | refine And.intro rfl ?_ | refine And.intro (fun _ => ?_) (fun h => Bool.noConfusion h) | refine And.intro (fun h => Bool.noConfusion h) (fun _ => ?_) | refine And.intro (fun _ => ?_) (fun h => absurd h (by rw [e2]; decide)) | refine And.intro (fun h => absurd h (by rw [e2]; decide)) (fun _ => ?_) | refine And.intro (fun _ => ?_) (fun h => absurd h (by rw [e3]; decide)) | refine And.intro (fun h => absurd h (by rw [e3]; decide)) (fun _ => ?_))
      refine sn_btsM (g := bk 3 [0, 2]) (N := N) (b := F) ?_ (by omega) hz (fun gx hg => ?_)
      · rfl
      refine ⟨U8 (tab n F), str_of (tab_len n F) (fun q hq => by rw [hg q hq, L_tab hq]), ?_⟩
      (repeat first | refine And.intro (by omega) ?_ | refine And.intro (by decide) ?_ | refine And.intro rfl ?_ | refine And.intro (fun _ => ?_) (fun h => Bool.noConfusion h) | refine And.intro (fun h => Bool.noConfusion h) (fun _ => ?_) | refine And.intro (fun _ => ?_) (fun h => absurd h (by rw [e2]; decide)) | refine And.intro (fun h => absurd h (by rw [e2]; decide)) (fun _ => ?_) | refine And.intro (fun _ => ?_) (fun h => absurd h (by rw [e3]; decide)) | refine And.intro (fun h => absurd h (by rw [e3]; decide)) (fun _ => ?_))
      rw [en]
      refine call_same hlab [1, 0] rfl ⟨rfl, rfl, hs.symm, rfl, rfl, rfl, rfl, rfl, rfl, rfl, trivial⟩ ?_ (fun _ _ => trivial) ?_
      · exact ⟨rfl, fun j hj => eqC_win0 (fun i hi => rfl) j, eqC_bts trivial⟩
      rintro x hs' ⟨g0, g1⟩
      by_cases hn0' : n = 0
      · obtain ⟨rfl, rfl⟩ := g0 hn0'
        clear g0 g1 hlab
        have hu : U8 (tab n F) = [] := by rw [hn0']; rfl
        rw [hu]
        have e8 : decide (([] : List UInt8) = []) = true := rfl
        (repeat first | refine And.intro (by omega) ?_ | refine And.intro (by decide) ?_ | refine And.intro rfl ?_ | refine And.intro (fun _ => ?_) (fun h => Bool.noConfusion h) | refine And.intro (fun h => Bool.noConfusion h) (fun _ => ?_) | refine And.intro (fun _ => ?_) (fun h => absurd h (by rw [e2]; decide)) | refine And.intro (fun h => absurd h (by rw [e2]; decide)) (fun _ => ?_) | refine And.intro (fun _ => ?_) (fun h => absurd h (by rw [e3]; decide)) | refine And.intro (fun h => absurd h (by rw [e3]; decide)) (fun _ => ?_) | refine And.intro (fun _ => ?_) (fun h => absurd h (by rw [e4]; decide)) | refine And.intro (fun h => absurd h (by rw [e4]; decide)) (fun _ => ?_) | refine And.intro (fun _ => ?_) (fun h => absurd h (by rw [e7]; decide)) | refine And.intro (fun h => absurd h (by rw [e7]; decide)) (fun _ => ?_))
        refine ⟨[], ⟨rfl, fun q hq => absurd hq (by omega)⟩, ?_⟩
        (repeat first | refine And.intro (by omega) ?_ | refine And.intro (by decide) ?_ | refine And.intro rfl ?_ | refine And.intro (fun _ => ?_) (fun h => Bool.noConfusion h) | refine And.intro (fun h => Bool.noConfusion h) (fun _ => ?_) | refine And.intro (fun _ => ?_) (fun h => absurd h (by rw [e2]; decide)) | refine And.intro (fun h => absurd h (by rw [e2]; decide)) (fun _ => ?_) | refine And.intro (fun _ => ?_) (fun h => absurd h (by rw [e3]; decide)) | refine And.intro (fun h => absurd h (by rw [e3]; decide)) (fun _ => ?_) | refine And.intro (fun _ => ?_) (fun h => absurd h (by rw [e4]; decide)) | refine And.intro (fun h => absurd h (by rw [e4]; decide)) (fun _ => ?_) | refine And.intro (fun _ => ?_) (fun h => absurd h (by rw [e7]; decide)) | refine And.intro (fun h => absurd h (by rw [e7]; decide)) (fun _ => ?_) | refine And.intro (fun _ => ?_) (fun h => absurd h (by rw [e8]; decide)) | refine And.intro (fun h => absurd h (by rw [e8]; decide)) (fun _ => ?_))
        exact ⟨.a (.c (.bool true)), [[]], ⟨[0], ⟨rfl, rfl, rfl⟩, rfl, eqSegs_nil trivial⟩, rfl⟩
      obtain ⟨N9, c9, hN9, hc9, rfl, rfl⟩ := g1 (Nat.pos_of_ne_zero hn0')
      clear g0 g1 hlab
      have e8 : decide (U8 (tab n F) = U8 (tab n F)) = true := decide_eq_true rfl
      (repeat first | refine And.intro (by omega) ?_ | refine And.intro (by decide) ?_ | refine And.intro rfl ?_ | refine And.intro (fun _ => ?_) (fun h => Bool.noConfusion h) | refine And.intro (fun h => Bool.noConfusion h) (fun _ => ?_) | refine And.intro (fun _ => ?_) (fun h => absurd h (by rw [e2]; decide)) | refine And.intro (fun h => absurd h (by rw [e2]; decide)) (fun _ => ?_) | refine And.intro (fun _ => ?_) (fun h => absurd h (by rw [e3]; decide)) | refine And.intro (fun h => absurd h (by rw [e3]; decide)) (fun _ => ?_) | refine And.intro (fun _ => ?_) (fun h => absurd h (by rw [e4]; decide)) | refine And.intro (fun h => absurd h (by rw [e4]; decide)) (fun _ => ?_) | refine And.intro (fun _ => ?_) (fun h => absurd h (by rw [e7]; decide)) | refine And.intro (fun h => absurd h (by rw [e7]; decide)) (fun _ => ?_))
      refine And.intro (by simp only [scale]; omega) ?_
      refine ⟨U8 (tab n F), str_of (tab_len n F) (fun q hq => ?_), ?_⟩
      · show SC.mp _ (winF 0 n F (q + 0)) = _
        have := winF_at 0 n F hq
        rw [Nat.zero_add] at this
        rw [Nat.add_zero, this, L_tab hq]
        rfl
      (repeat first | refine And.intro (by omega) ?_ | refine And.intro (by decide) ?_ | refine And.intro rfl ?_ | refine And.intro (fun _ => ?_) (fun h => Bool.noConfusion h) | refine And.intro (fun h => Bool.noConfusion h) (fun _ => ?_) | refine And.intro (fun _ => ?_) (fun h => absurd h (by rw [e2]; decide)) | refine And.intro (fun h => absurd h (by rw [e2]; decide)) (fun _ => ?_) | refine And.intro (fun _ => ?_) (fun h => absurd h (by rw [e3]; decide)) | refine And.intro (fun h => absurd h (by rw [e3]; decide)) (fun _ => ?_) | refine And.intro (fun _ => ?_) (fun h => absurd h (by rw [e4]; decide)) | refine And.intro (fun h => absurd h (by rw [e4]; decide)) (fun _ => ?_) | refine And.intro (fun _ => ?_) (fun h => absurd h (by rw [e7]; decide)) | refine And.intro (fun h => absurd h (by rw [e7]; decide)) (fun _ => ?_) | refine And.intro (fun _ => ?_) (fun h => absurd h (by rw [e8]; decide)) | refine And.intro (fun h => absurd h (by rw [e8]; decide)) (fun _ => ?_))
      exact ⟨.a (.c (.bool true)), [[]], ⟨[0], ⟨rfl, rfl, rfl⟩, rfl, eqSegs_nil trivial⟩, rfl⟩
end Sx
end Go.Proofs.Ytndlhhhebijknaa
end

section
/-
  Forms laid bare by an equation. Over any program. No condition of its own.
-/
namespace Go.Proofs.Ytndlhhhebijknaa
set_option linter.unusedVariables false
namespace Sx

theorem frcN_of {n m : Nat} {k : Nat → Prop} (h : n = m) (hk : k m) : frcN n k := by subst h; exact hk
theorem frc_upd {f : Nat → SC} {o b : Nat} {x : SC} {k : SC → Prop} (h : b ≠ o) (hk : frcSC (f b) k) : frcSC (upd f o x b) k := by
  unfold upd; rw [if_neg h]; exact hk
end Sx
end Go.Proofs.Ytndlhhhebijknaa
end

section
/-
  Numbers of sixteen bits as arguments. Over any program. No condition of its own.
-/
namespace Go.Proofs.Ytndlhhhebijknaa
set_option linter.unusedVariables false
namespace Sx
open Go.ChangeShapes

theorem wf_w16 {a : Int} (h : (Lit.int .u16 a).wf = true) : a = ((BitVec.ofInt 16 a).toNat : Int) := by
  have := bounds_u16 h
  rw [BitVec.toNat_ofInt]
  omega
theorem wf_w64 {a : Int} (h : (Lit.int .u64 a).wf = true) : a = ((BitVec.ofInt 64 a).toNat : Int) := by
  have := bounds_u64 h
  rw [BitVec.toNat_ofInt]
  omega
end Sx
end Go.Proofs.Ytndlhhhebijknaa
end

section
/-
  Secrets out of secrets: the law of Expand. No condition.
-/
namespace Go.Proofs.Ytndlhhhebijknaa
set_option linter.unusedVariables false
namespace Sx
open Sha

theorem sn_btsMk {h : List (List Seg)} {g : Nat → Nat} {z : Bool} {j N o n m : Nat} {b : Nat → BitVec 8} {k : (Nat → SC) → Prop} (hj : getH h j = mpL g (bts z N o n b)) (hN : o + n ≤ N) (hz : z = true → m = 0) (hm : m ≤ n)
    (hk : ∀ g : Nat → SC, (∀ i, i < m → g i = .w8 (b i)) → k g) : ∃ f : Nat → SC, ((z = true → m = 0) ∧ (z = false → SnAt h j 0 o m 1 f)) ∧ k f := by
  refine ⟨fun i => .w8 (b i), ⟨hz, ?_⟩, hk _ fun _ _ => rfl⟩
  rintro rfl
  refine ⟨N, fun j => SC.mp g (winF o n b j), [], by rw [hj]; rfl, by simp only [scale]; omega, fun q hq => ?_⟩
  show SC.w8 (b q) = SC.mp g (winF o n b (q + o))
  have hq' : q < m := hq
  rw [Nat.add_comm, winF_at _ _ _ (by omega)]
  rfl
set_option maxRecDepth 20000 in
set_option maxHeartbeats 4000000 in
theorem fn_kdfExpands (zc : Bool) (cc : Nat) (s ctx : Bs) (m : BitVec 16) (far : Int) (hs : s.length = 32) (hcc : ctx.length ≤ cc) (hzc : zc = true → ctx = []) :
    FnR Try.prog tds 6 1 [bts zc ctx.length 0 ctx.length (L ctx)] [.agg [.row 32 fun i => .w8 (L s i)], .c (.sn zc 0 0 0 ctx.length cc), .c (.w16 m), .c (.int .i64 far)] (fun _ => True) (fun x _ => x = .a (.c (.bool true))) := by
  refine fn_of_body tds_ok follows_ Try.func6 rfl (t := [.a (.agg [.row 32 fun i => .w8 (L s i)]), .a (.c (.sn zc 0 0 0 ctx.length cc)), .a (.c (.w16 m)), .a (.c (.int .i64 (far))), .any, .any, .any, .any, .any, .any, .any, .any, .any, .any, .any, .any, .any, .any, .any, .any, .any, .any, .any, .any, .any, .any, .any, .any, .any, .any, .any, .any, .any, .any, .any, .any, .any, .any, .any, .any, .any, .any, .any, .any, .any, .any, .any, .any, .any, .any, .any, .any, .any, .any, .any, .any, .any, .any, .any, .any, .any, .any, .any, .any, .any, .any, .any, .any, .any, .any, .any, .any, .any, .any, .any, .any, .any, .any, .any, .any, .any, .any, .any, .any, .any, .any, .any, .any, .any, .any, .any, .any, .any, .any, .any, .any, .any, .any, .any, .any, .any, .any, .any, .any, .any, .any, .any, .any, .any, .any]) rfl (fun w r0 hr _ => ?_)
  obtain ⟨x0, rfl⟩ := List.length_eq_one_iff.1 hr
  (repeat first | refine And.intro (by omega) ?_ | refine And.intro (by decide) ?_ | (with_reducible refine frc_parts (by first | omega | decide) ?_) | (with_reducible refine frc_bytesL (by first | omega | decide) ?_) | refine And.intro rfl ?_)
  refine call_same fn_awake4 [] rfl trivial trivial (fun _ _ => trivial) ?_
  rintro x hs' ⟨rfl, rfl⟩
  refine ⟨fun h => Bool.noConfusion h, fun _ => ?_⟩
  by_cases h1 : 200 < ctx.length
  · have e1 : decide ((200 : Int) < (ctx.length : Int)) = true := decide_eq_true (by omega)
    (repeat first | refine And.intro (by omega) ?_ | refine And.intro (by decide) ?_ | refine And.intro rfl ?_ | refine And.intro (fun _ => ?_) (fun h => Bool.noConfusion h) | refine And.intro (fun h => Bool.noConfusion h) (fun _ => ?_) | refine And.intro (fun _ => ?_) (fun h => absurd h (by rw [e1]; decide)) | refine And.intro (fun h => absurd h (by rw [e1]; decide)) (fun _ => ?_))
    exact ⟨.a (.c (.bool true)), [[]], ⟨[0], ⟨rfl, rfl, rfl⟩, rfl, eqSegs_nil trivial⟩, rfl⟩
  have e1 : decide ((200 : Int) < (ctx.length : Int)) = false := decide_eq_false (by omega)
  (repeat first | refine And.intro (by omega) ?_ | refine And.intro (by decide) ?_ | refine And.intro rfl ?_ | refine And.intro (fun _ => ?_) (fun h => Bool.noConfusion h) | refine And.intro (fun h => Bool.noConfusion h) (fun _ => ?_) | refine And.intro (fun _ => ?_) (fun h => absurd h (by rw [e1]; decide)) | refine And.intro (fun h => absurd h (by rw [e1]; decide)) (fun _ => ?_))
  refine call_same fn_knew [] rfl trivial trivial (fun _ _ => trivial) ?_
  rintro x hs' ⟨rfl, rfl⟩
  (repeat first | refine And.intro (by omega) ?_ | refine And.intro (by decide) ?_ | (with_reducible refine frc_parts (by first | omega | decide) ?_) | (with_reducible refine frc_bytesL (by first | omega | decide) ?_) | refine And.intro rfl ?_)
  obtain ⟨n, hn⟩ : ∃ n, m.toNat % 200 = n := ⟨_, rfl⟩
  have en : ((m.toNat : Nat) : Int) % 200 = (n : Int) := by omega
  rw [en]
  have hn99 : n < 200 := by omega
  have hn0 : (0 : Int) ≤ (n : Int) := by omega
  have hn1 : (n : Int) ≤ 8160 := by omega
  refine call_same (fn_kexpand zc ctx.length 0 cc s ctx (n : Int) 0 (fun _ => 0) (fun _ => 0) (.inl rfl) hs (by omega) hcc hzc) [0, 2] rfl (by (repeat first | exact trivial | refine ⟨rfl, ?_⟩ | refine ⟨fun _ _ => ⟨rfl, trivial⟩, ?_⟩ | refine ⟨fun _ _ => trivial, ?_⟩ | refine ⟨by omega, ?_⟩ | refine ⟨fun _ _ => eqC_winS, ?_⟩ | refine ⟨fun _ _ => eqC_winM, ?_⟩ | refine ⟨fun _ _ => eqC_winB, ?_⟩ | refine ⟨fun _ _ => eqC_selfB, ?_⟩ | refine ⟨fun _ _ => eqC_mpB, ?_⟩)) ?_ (fun _ _ => trivial) ?_
  · refine eqC_bts ?_
    (repeat first | exact trivial | refine ⟨rfl, ?_⟩ | refine ⟨fun _ _ => ⟨rfl, trivial⟩, ?_⟩ | refine ⟨fun _ _ => trivial, ?_⟩ | refine ⟨by omega, ?_⟩ | refine ⟨fun _ _ => eqC_winS, ?_⟩ | refine ⟨fun _ _ => eqC_winM, ?_⟩ | refine ⟨fun _ _ => eqC_winB, ?_⟩ | refine ⟨fun _ _ => eqC_selfB, ?_⟩ | refine ⟨fun _ _ => eqC_mpB, ?_⟩)
  rintro x hs' ⟨-, hgood⟩
  obtain ⟨z, N, dn', f', g', hd', hz, hz2, hN, rfl, rfl⟩ := hgood hn0 hn1
  clear hgood
  have et : ((n : Nat) : Int).toNat = n := by omega
  rw [et] at hz hN
  rw [et]
  have ht1 : -9000 < Int.tmod far 9000 ∧ Int.tmod far 9000 < 9000 := ⟨by have := Int.lt_tmod_of_pos far (show (0 : Int) < 9000 by decide); omega, Int.tmod_lt_of_pos far (by decide)⟩
  obtain ⟨t, ht⟩ : ∃ t, Int.tmod far 9000 = t := ⟨_, rfl⟩
  rw [ht] at ht1
  (repeat first | refine And.intro (by omega) ?_ | refine And.intro (by decide) ?_ | (with_reducible refine frc_parts (by first | omega | decide) ?_) | (with_reducible refine frc_bytesL (by first | omega | decide) ?_) | refine And.intro rfl ?_)
  rw [ht]
  refine call_same (fn_kexpand zc ctx.length 0 cc s ctx t dn' f' g' hd' hs (by omega) hcc hzc) [0, 2] rfl (by (repeat first | exact trivial | refine ⟨rfl, ?_⟩ | refine ⟨fun _ _ => ⟨rfl, trivial⟩, ?_⟩ | refine ⟨fun _ _ => trivial, ?_⟩ | refine ⟨by omega, ?_⟩ | refine ⟨fun _ _ => eqC_winS, ?_⟩ | refine ⟨fun _ _ => eqC_winM, ?_⟩ | refine ⟨fun _ _ => eqC_winB, ?_⟩ | refine ⟨fun _ _ => eqC_selfB, ?_⟩ | refine ⟨fun _ _ => eqC_mpB, ?_⟩)) ?_ (fun _ _ => trivial) ?_
  · refine eqC_bts ?_
    (repeat first | exact trivial | refine ⟨rfl, ?_⟩ | refine ⟨fun _ _ => ⟨rfl, trivial⟩, ?_⟩ | refine ⟨fun _ _ => trivial, ?_⟩ | refine ⟨by omega, ?_⟩ | refine ⟨fun _ _ => eqC_winS, ?_⟩ | refine ⟨fun _ _ => eqC_winM, ?_⟩ | refine ⟨fun _ _ => eqC_winB, ?_⟩ | refine ⟨fun _ _ => eqC_selfB, ?_⟩ | refine ⟨fun _ _ => eqC_mpB, ?_⟩)
  obtain ⟨F, hF⟩ : ∃ F, exF s ctx = F := ⟨_, rfl⟩
  have hlab := fn_rexpand false zc 32 ctx.length 0 0 32 cc s ctx n (by omega) (by omega) (fun h => Bool.noConfusion h) (by omega) hcc hzc (by omega) (by omega) (by omega)
  rw [hF] at hlab
  rw [hF]
  rintro x hs' ⟨hbad2, hgood2⟩
  by_cases hf : 0 ≤ t ∧ t ≤ 8160
  · skip
    obtain ⟨z2, N2, dn2, f2, g2, hd2, hz22, hz222, hN2, rfl, rfl⟩ := hgood2 hf.1 hf.2
    clear hbad2 hgood2
    obtain ⟨q, rfl⟩ : ∃ q : Nat, t = q := ⟨t.toNat, by omega⟩
    have etq : ((q : Nat) : Int).toNat = q := by omega
    rw [etq] at hz22 hN2
    rw [etq]
    have e4 : decide ((0 : Int) ≤ (q : Int)) = true := decide_eq_true hf.1
    have e5 : decide ((q : Int) ≤ 8160) = true := decide_eq_true hf.2
    have e7 : (!(decide ((0 : Int) = 0) == decide ((q : Int) ≤ 8160))) = false := by rw [e5]; rfl
    have e9 : decide ((q : Int) ≠ Int.tmod far 9000) = false := decide_eq_false (fun h => h ht.symm)
    have e10 : (!decide ((q : Int) ≤ 8160)) = false := by rw [e5]; rfl
    (repeat first | refine And.intro (by omega) ?_ | refine And.intro (by decide) ?_ | refine And.intro rfl ?_ | refine And.intro (fun _ => ?_) (fun h => Bool.noConfusion h) | refine And.intro (fun h => Bool.noConfusion h) (fun _ => ?_) | refine And.intro (fun _ => ?_) (fun h => absurd h (by rw [e1]; decide)) | refine And.intro (fun h => absurd h (by rw [e1]; decide)) (fun _ => ?_) | refine And.intro (fun _ => ?_) (fun h => absurd h (by rw [e4]; decide)) | refine And.intro (fun h => absurd h (by rw [e4]; decide)) (fun _ => ?_) | refine And.intro (fun _ => ?_) (fun h => absurd h (by rw [e5]; decide)) | refine And.intro (fun h => absurd h (by rw [e5]; decide)) (fun _ => ?_) | refine And.intro (fun _ => ?_) (fun h => absurd h (by rw [e7]; decide)) | refine And.intro (fun h => absurd h (by rw [e7]; decide)) (fun _ => ?_) | refine And.intro (fun _ => ?_) (fun h => absurd h (by rw [e9]; decide)) | refine And.intro (fun h => absurd h (by rw [e9]; decide)) (fun _ => ?_) | refine And.intro (fun _ => ?_) (fun h => absurd h (by rw [e10]; decide)) | refine And.intro (fun h => absurd h (by rw [e10]; decide)) (fun _ => ?_))
    rw [ht]
    (repeat first | refine And.intro (by omega) ?_ | refine And.intro (by decide) ?_ | refine And.intro rfl ?_ | refine And.intro (fun _ => ?_) (fun h => Bool.noConfusion h) | refine And.intro (fun h => Bool.noConfusion h) (fun _ => ?_) | refine And.intro (fun _ => ?_) (fun h => absurd h (by rw [e1]; decide)) | refine And.intro (fun h => absurd h (by rw [e1]; decide)) (fun _ => ?_) | refine And.intro (fun _ => ?_) (fun h => absurd h (by rw [e4]; decide)) | refine And.intro (fun h => absurd h (by rw [e4]; decide)) (fun _ => ?_) | refine And.intro (fun _ => ?_) (fun h => absurd h (by rw [e5]; decide)) | refine And.intro (fun h => absurd h (by rw [e5]; decide)) (fun _ => ?_) | refine And.intro (fun _ => ?_) (fun h => absurd h (by rw [e7]; decide)) | refine And.intro (fun h => absurd h (by rw [e7]; decide)) (fun _ => ?_) | refine And.intro (fun _ => ?_) (fun h => absurd h (by rw [e9]; decide)) | refine And.intro (fun h => absurd h (by rw [e9]; decide)) (fun _ => ?_) | refine And.intro (fun _ => ?_) (fun h => absurd h (by rw [e10]; decide)) | refine And.intro (fun h => absurd h (by rw [e10]; decide)) (fun _ => ?_))
    try rw [ht]
    refine ⟨none, [], [(0, true), (1, true), (2, true), (3, true), (4, true), (5, true), (6, true), (7, true), (8, false), (9, true), (10, true), (11, true), (12, true), (13, true), (14, true), (15, true), (16, true), (17, true), (18, true), (19, true), (20, true), (21, true), (22, true), (23, true), (24, true), (25, true), (26, true), (27, true), (28, true), (29, true), (30, true), (31, true), (32, true), (33, true), (34, true), (35, true), (36, true), (37, true), (38, true), (39, true), (40, true)], [], by kernel_rfl, ?_⟩
    (repeat first | refine And.intro (by omega) ?_ | refine And.intro (by decide) ?_ | refine And.intro rfl ?_ | refine And.intro (fun _ => ?_) (fun h => Bool.noConfusion h) | refine And.intro (fun h => Bool.noConfusion h) (fun _ => ?_) | refine And.intro (fun _ => ?_) (fun h => absurd h (by rw [e1]; decide)) | refine And.intro (fun h => absurd h (by rw [e1]; decide)) (fun _ => ?_) | refine And.intro (fun _ => ?_) (fun h => absurd h (by rw [e4]; decide)) | refine And.intro (fun h => absurd h (by rw [e4]; decide)) (fun _ => ?_) | refine And.intro (fun _ => ?_) (fun h => absurd h (by rw [e5]; decide)) | refine And.intro (fun h => absurd h (by rw [e5]; decide)) (fun _ => ?_) | refine And.intro (fun _ => ?_) (fun h => absurd h (by rw [e7]; decide)) | refine And.intro (fun h => absurd h (by rw [e7]; decide)) (fun _ => ?_) | refine And.intro (fun _ => ?_) (fun h => absurd h (by rw [e9]; decide)) | refine And.intro (fun h => absurd h (by rw [e9]; decide)) (fun _ => ?_) | refine And.intro (fun _ => ?_) (fun h => absurd h (by rw [e10]; decide)) | refine And.intro (fun h => absurd h (by rw [e10]; decide)) (fun _ => ?_))
    refine sn_btsM (g := bk 3 [0, 2]) (N := N) (b := F) ?_ (by omega) hz (fun gx hg => ?_)
    · rfl
    refine ⟨U8 (tab n F), str_of (tab_len n F) (fun q hq => by rw [hg q hq, L_tab hq]), ?_⟩
    (repeat first | refine And.intro (by omega) ?_ | refine And.intro (by decide) ?_ | refine And.intro rfl ?_ | refine And.intro (fun _ => ?_) (fun h => Bool.noConfusion h) | refine And.intro (fun h => Bool.noConfusion h) (fun _ => ?_) | refine And.intro (fun _ => ?_) (fun h => absurd h (by rw [e1]; decide)) | refine And.intro (fun h => absurd h (by rw [e1]; decide)) (fun _ => ?_) | refine And.intro (fun _ => ?_) (fun h => absurd h (by rw [e4]; decide)) | refine And.intro (fun h => absurd h (by rw [e4]; decide)) (fun _ => ?_) | refine And.intro (fun _ => ?_) (fun h => absurd h (by rw [e5]; decide)) | refine And.intro (fun h => absurd h (by rw [e5]; decide)) (fun _ => ?_) | refine And.intro (fun _ => ?_) (fun h => absurd h (by rw [e7]; decide)) | refine And.intro (fun h => absurd h (by rw [e7]; decide)) (fun _ => ?_) | refine And.intro (fun _ => ?_) (fun h => absurd h (by rw [e9]; decide)) | refine And.intro (fun h => absurd h (by rw [e9]; decide)) (fun _ => ?_) | refine And.intro (fun _ => ?_) (fun h => absurd h (by rw [e10]; decide)) | refine And.intro (fun h => absurd h (by rw [e10]; decide)) (fun _ => ?_))
    refine call_same hlab [1, 0] rfl (by (repeat first | exact trivial | refine ⟨rfl, ?_⟩ | refine ⟨fun _ _ => ⟨rfl, trivial⟩, ?_⟩ | refine ⟨fun _ _ => trivial, ?_⟩ | refine ⟨by omega, ?_⟩ | refine ⟨fun _ _ => eqC_winS, ?_⟩ | refine ⟨fun _ _ => eqC_winM, ?_⟩ | refine ⟨fun _ _ => eqC_winB, ?_⟩ | refine ⟨fun _ _ => eqC_selfB, ?_⟩ | refine ⟨fun _ _ => eqC_mpB, ?_⟩); refine ⟨hs.symm, ?_⟩; (repeat first | exact trivial | refine ⟨rfl, ?_⟩ | refine ⟨fun _ _ => ⟨rfl, trivial⟩, ?_⟩ | refine ⟨fun _ _ => trivial, ?_⟩ | refine ⟨by omega, ?_⟩ | refine ⟨fun _ _ => eqC_winS, ?_⟩ | refine ⟨fun _ _ => eqC_winM, ?_⟩ | refine ⟨fun _ _ => eqC_winB, ?_⟩ | refine ⟨fun _ _ => eqC_selfB, ?_⟩ | refine ⟨fun _ _ => eqC_mpB, ?_⟩)) ?_ (fun _ _ => trivial) ?_
    · exact ⟨rfl, fun j hj => eqC_win0 (fun i hi => rfl) j, eqC_bts trivial⟩
    rintro x hs' ⟨g0, g1⟩
    by_cases hn0' : n = 0
    · obtain ⟨rfl, rfl⟩ := g0 hn0'
      clear g0 g1 hlab
      have hu : U8 (tab n F) = [] := by rw [hn0']; rfl
      rw [hu]
      have e8 : (!decide (([] : List UInt8) = [])) = false := rfl
      (repeat first | refine And.intro (by omega) ?_ | refine And.intro (by decide) ?_ | refine And.intro rfl ?_ | refine And.intro (fun _ => ?_) (fun h => Bool.noConfusion h) | refine And.intro (fun h => Bool.noConfusion h) (fun _ => ?_) | refine And.intro (fun _ => ?_) (fun h => absurd h (by rw [e1]; decide)) | refine And.intro (fun h => absurd h (by rw [e1]; decide)) (fun _ => ?_) | refine And.intro (fun _ => ?_) (fun h => absurd h (by rw [e4]; decide)) | refine And.intro (fun h => absurd h (by rw [e4]; decide)) (fun _ => ?_) | refine And.intro (fun _ => ?_) (fun h => absurd h (by rw [e5]; decide)) | refine And.intro (fun h => absurd h (by rw [e5]; decide)) (fun _ => ?_) | refine And.intro (fun _ => ?_) (fun h => absurd h (by rw [e7]; decide)) | refine And.intro (fun h => absurd h (by rw [e7]; decide)) (fun _ => ?_) | refine And.intro (fun _ => ?_) (fun h => absurd h (by rw [e9]; decide)) | refine And.intro (fun h => absurd h (by rw [e9]; decide)) (fun _ => ?_) | refine And.intro (fun _ => ?_) (fun h => absurd h (by rw [e10]; decide)) | refine And.intro (fun h => absurd h (by rw [e10]; decide)) (fun _ => ?_))
      refine ⟨[], ⟨rfl, fun q hq => absurd hq (by omega)⟩, ?_⟩
      (repeat first | refine And.intro (by omega) ?_ | refine And.intro (by decide) ?_ | refine And.intro rfl ?_ | refine And.intro (fun _ => ?_) (fun h => Bool.noConfusion h) | refine And.intro (fun h => Bool.noConfusion h) (fun _ => ?_) | refine And.intro (fun _ => ?_) (fun h => absurd h (by rw [e1]; decide)) | refine And.intro (fun h => absurd h (by rw [e1]; decide)) (fun _ => ?_) | refine And.intro (fun _ => ?_) (fun h => absurd h (by rw [e4]; decide)) | refine And.intro (fun h => absurd h (by rw [e4]; decide)) (fun _ => ?_) | refine And.intro (fun _ => ?_) (fun h => absurd h (by rw [e5]; decide)) | refine And.intro (fun h => absurd h (by rw [e5]; decide)) (fun _ => ?_) | refine And.intro (fun _ => ?_) (fun h => absurd h (by rw [e7]; decide)) | refine And.intro (fun h => absurd h (by rw [e7]; decide)) (fun _ => ?_) | refine And.intro (fun _ => ?_) (fun h => absurd h (by rw [e9]; decide)) | refine And.intro (fun h => absurd h (by rw [e9]; decide)) (fun _ => ?_) | refine And.intro (fun _ => ?_) (fun h => absurd h (by rw [e10]; decide)) | refine And.intro (fun h => absurd h (by rw [e10]; decide)) (fun _ => ?_) | refine And.intro (fun _ => ?_) (fun h => absurd h (by rw [e8]; decide)) | refine And.intro (fun h => absurd h (by rw [e8]; decide)) (fun _ => ?_))
      refine ⟨none, [], [(0, true), (1, true), (2, true), (3, true), (4, true), (5, true), (6, true), (7, true), (8, true), (9, true), (10, true), (11, true), (12, true), (13, true), (14, true), (15, true), (16, true), (17, true), (18, true), (19, true)], [], by kernel_rfl, ?_⟩
      (repeat first | refine ⟨fun _ => ?_, fun h => absurd h (by rw [e10]; decide)⟩ | refine ⟨fun h => absurd h (by rw [e10]; decide), fun _ => ?_⟩ | refine ⟨fun _ => ?_, fun h => Bool.noConfusion h⟩ | refine ⟨fun h => Bool.noConfusion h, fun _ => ?_⟩)
      obtain ⟨mm, hmm, hm1, hm2⟩ : ∃ mm : Nat, (if (q : Int) < (n : Int) then (q : Int) else (n : Int)) = (mm : Int) ∧ mm ≤ n ∧ mm ≤ q := by
        by_cases h : (q : Int) < (n : Int)
        · exact ⟨q, if_pos h, by omega, Nat.le_refl _⟩
        · exact ⟨n, if_neg h, Nat.le_refl _, by omega⟩
      have hmm' : ∀ _ : Unit, (if (q : Int) < (n : Int) then (q : Int) else (n : Int)) = (mm : Int) := fun _ => hmm
      rw [hmm]
      clear hmm
      have emm : ((mm : Nat) : Int).toNat = mm := by omega
      refine ⟨⟨by omega, by omega, by omega⟩, ?_⟩
      refine frcN_of (m := 0) rfl ?_
      refine frcN_of emm ?_
      refine frcN_of (m := 0) (by split <;> rfl) ?_
      refine frcN_of (m := mm) rfl ?_
      refine frcN_of (m := n) rfl ?_
      (repeat first | refine And.intro (by omega) ?_ | refine And.intro (by decide) ?_ | refine And.intro rfl ?_ | refine And.intro (fun _ => ?_) (fun h => Bool.noConfusion h) | refine And.intro (fun h => Bool.noConfusion h) (fun _ => ?_) | refine And.intro (fun _ => ?_) (fun h => absurd h (by rw [e1]; decide)) | refine And.intro (fun h => absurd h (by rw [e1]; decide)) (fun _ => ?_) | refine And.intro (fun _ => ?_) (fun h => absurd h (by rw [e4]; decide)) | refine And.intro (fun h => absurd h (by rw [e4]; decide)) (fun _ => ?_) | refine And.intro (fun _ => ?_) (fun h => absurd h (by rw [e5]; decide)) | refine And.intro (fun h => absurd h (by rw [e5]; decide)) (fun _ => ?_) | refine And.intro (fun _ => ?_) (fun h => absurd h (by rw [e7]; decide)) | refine And.intro (fun h => absurd h (by rw [e7]; decide)) (fun _ => ?_) | refine And.intro (fun _ => ?_) (fun h => absurd h (by rw [e9]; decide)) | refine And.intro (fun h => absurd h (by rw [e9]; decide)) (fun _ => ?_) | refine And.intro (fun _ => ?_) (fun h => absurd h (by rw [e10]; decide)) | refine And.intro (fun h => absurd h (by rw [e10]; decide)) (fun _ => ?_) | refine And.intro (fun _ => ?_) (fun h => absurd h (by rw [e8]; decide)) | refine And.intro (fun h => absurd h (by rw [e8]; decide)) (fun _ => ?_))
      refine sn_btsMk (g := bk 3 [0, 2]) (N := N) (n := n) (b := F) rfl (by omega) (fun h => by have := hz h; omega) hm1 (fun gx2 hg2 => ?_)
      refine ⟨U8 (tab mm F), str_of (tab_len mm F) (fun q hq => by rw [hg2 q hq, L_tab hq]), ?_⟩
      have e11 : decide (U8 (tab mm F) = U8 (tab mm F)) = true := decide_eq_true rfl
      (repeat first | refine ⟨fun _ => ?_, fun h => absurd h (by rw [e10]; decide)⟩ | refine ⟨fun h => absurd h (by rw [e10]; decide), fun _ => ?_⟩ | refine ⟨fun _ => ?_, fun h => Bool.noConfusion h⟩ | refine ⟨fun h => Bool.noConfusion h, fun _ => ?_⟩)
      rw [hmm' ()]
      refine ⟨⟨by omega, by omega, by omega⟩, ?_⟩
      refine frcN_of (m := 0) rfl ?_
      refine frcN_of emm ?_
      refine frcN_of (m := 0) (by split <;> rfl) ?_
      refine frcN_of (m := mm) rfl ?_
      refine frcN_of (m := q) rfl ?_
      (repeat first | refine And.intro (by omega) ?_ | refine And.intro (by decide) ?_ | refine And.intro rfl ?_ | refine And.intro (fun _ => ?_) (fun h => Bool.noConfusion h) | refine And.intro (fun h => Bool.noConfusion h) (fun _ => ?_) | refine And.intro (fun _ => ?_) (fun h => absurd h (by rw [e1]; decide)) | refine And.intro (fun h => absurd h (by rw [e1]; decide)) (fun _ => ?_) | refine And.intro (fun _ => ?_) (fun h => absurd h (by rw [e4]; decide)) | refine And.intro (fun h => absurd h (by rw [e4]; decide)) (fun _ => ?_) | refine And.intro (fun _ => ?_) (fun h => absurd h (by rw [e5]; decide)) | refine And.intro (fun h => absurd h (by rw [e5]; decide)) (fun _ => ?_) | refine And.intro (fun _ => ?_) (fun h => absurd h (by rw [e7]; decide)) | refine And.intro (fun h => absurd h (by rw [e7]; decide)) (fun _ => ?_) | refine And.intro (fun _ => ?_) (fun h => absurd h (by rw [e9]; decide)) | refine And.intro (fun h => absurd h (by rw [e9]; decide)) (fun _ => ?_) | refine And.intro (fun _ => ?_) (fun h => absurd h (by rw [e10]; decide)) | refine And.intro (fun h => absurd h (by rw [e10]; decide)) (fun _ => ?_) | refine And.intro (fun _ => ?_) (fun h => absurd h (by rw [e8]; decide)) | refine And.intro (fun h => absurd h (by rw [e8]; decide)) (fun _ => ?_) | refine And.intro (fun _ => ?_) (fun h => absurd h (by rw [e11]; decide)) | refine And.intro (fun h => absurd h (by rw [e11]; decide)) (fun _ => ?_))
      refine sn_btsMk (g := bk 4 [0, 2]) (N := N2) (n := q) (b := F) rfl (by omega) (fun h => by have := hz22 h; omega) hm2 (fun gx3 hg3 => ?_)
      refine ⟨U8 (tab mm F), str_of (tab_len mm F) (fun q hq => by rw [hg3 q hq, L_tab hq]), ?_⟩
      (repeat first | refine And.intro (by omega) ?_ | refine And.intro (by decide) ?_ | refine And.intro rfl ?_ | refine And.intro (fun _ => ?_) (fun h => Bool.noConfusion h) | refine And.intro (fun h => Bool.noConfusion h) (fun _ => ?_) | refine And.intro (fun _ => ?_) (fun h => absurd h (by rw [e1]; decide)) | refine And.intro (fun h => absurd h (by rw [e1]; decide)) (fun _ => ?_) | refine And.intro (fun _ => ?_) (fun h => absurd h (by rw [e4]; decide)) | refine And.intro (fun h => absurd h (by rw [e4]; decide)) (fun _ => ?_) | refine And.intro (fun _ => ?_) (fun h => absurd h (by rw [e5]; decide)) | refine And.intro (fun h => absurd h (by rw [e5]; decide)) (fun _ => ?_) | refine And.intro (fun _ => ?_) (fun h => absurd h (by rw [e7]; decide)) | refine And.intro (fun h => absurd h (by rw [e7]; decide)) (fun _ => ?_) | refine And.intro (fun _ => ?_) (fun h => absurd h (by rw [e9]; decide)) | refine And.intro (fun h => absurd h (by rw [e9]; decide)) (fun _ => ?_) | refine And.intro (fun _ => ?_) (fun h => absurd h (by rw [e10]; decide)) | refine And.intro (fun h => absurd h (by rw [e10]; decide)) (fun _ => ?_) | refine And.intro (fun _ => ?_) (fun h => absurd h (by rw [e8]; decide)) | refine And.intro (fun h => absurd h (by rw [e8]; decide)) (fun _ => ?_) | refine And.intro (fun _ => ?_) (fun h => absurd h (by rw [e11]; decide)) | refine And.intro (fun h => absurd h (by rw [e11]; decide)) (fun _ => ?_))
      exact ⟨.a (.c (.bool true)), [[]], ⟨[0], ⟨rfl, rfl, rfl⟩, e11, eqSegs_nil trivial⟩, rfl⟩
    obtain ⟨N9, c9, hN9, hc9, rfl, rfl⟩ := g1 (Nat.pos_of_ne_zero hn0')
    clear g0 g1 hlab
    have e8 : (!decide (U8 (tab n F) = U8 (tab n F))) = false := by rw [decide_eq_true rfl]; rfl
    (repeat first | refine And.intro (by omega) ?_ | refine And.intro (by decide) ?_ | refine And.intro rfl ?_ | refine And.intro (fun _ => ?_) (fun h => Bool.noConfusion h) | refine And.intro (fun h => Bool.noConfusion h) (fun _ => ?_) | refine And.intro (fun _ => ?_) (fun h => absurd h (by rw [e1]; decide)) | refine And.intro (fun h => absurd h (by rw [e1]; decide)) (fun _ => ?_) | refine And.intro (fun _ => ?_) (fun h => absurd h (by rw [e4]; decide)) | refine And.intro (fun h => absurd h (by rw [e4]; decide)) (fun _ => ?_) | refine And.intro (fun _ => ?_) (fun h => absurd h (by rw [e5]; decide)) | refine And.intro (fun h => absurd h (by rw [e5]; decide)) (fun _ => ?_) | refine And.intro (fun _ => ?_) (fun h => absurd h (by rw [e7]; decide)) | refine And.intro (fun h => absurd h (by rw [e7]; decide)) (fun _ => ?_) | refine And.intro (fun _ => ?_) (fun h => absurd h (by rw [e9]; decide)) | refine And.intro (fun h => absurd h (by rw [e9]; decide)) (fun _ => ?_) | refine And.intro (fun _ => ?_) (fun h => absurd h (by rw [e10]; decide)) | refine And.intro (fun h => absurd h (by rw [e10]; decide)) (fun _ => ?_))
    try refine And.intro (by simp only [scale]; omega) ?_
    refine ⟨U8 (tab n F), str_of (tab_len n F) (fun q hq => ?_), ?_⟩
    · show SC.mp _ (winF 0 n F (q + 0)) = _
      have := winF_at 0 n F hq
      rw [Nat.zero_add] at this
      rw [Nat.add_zero, this, L_tab hq]
      rfl
    (repeat first | refine And.intro (by omega) ?_ | refine And.intro (by decide) ?_ | refine And.intro rfl ?_ | refine And.intro (fun _ => ?_) (fun h => Bool.noConfusion h) | refine And.intro (fun h => Bool.noConfusion h) (fun _ => ?_) | refine And.intro (fun _ => ?_) (fun h => absurd h (by rw [e1]; decide)) | refine And.intro (fun h => absurd h (by rw [e1]; decide)) (fun _ => ?_) | refine And.intro (fun _ => ?_) (fun h => absurd h (by rw [e4]; decide)) | refine And.intro (fun h => absurd h (by rw [e4]; decide)) (fun _ => ?_) | refine And.intro (fun _ => ?_) (fun h => absurd h (by rw [e5]; decide)) | refine And.intro (fun h => absurd h (by rw [e5]; decide)) (fun _ => ?_) | refine And.intro (fun _ => ?_) (fun h => absurd h (by rw [e7]; decide)) | refine And.intro (fun h => absurd h (by rw [e7]; decide)) (fun _ => ?_) | refine And.intro (fun _ => ?_) (fun h => absurd h (by rw [e9]; decide)) | refine And.intro (fun h => absurd h (by rw [e9]; decide)) (fun _ => ?_) | refine And.intro (fun _ => ?_) (fun h => absurd h (by rw [e10]; decide)) | refine And.intro (fun h => absurd h (by rw [e10]; decide)) (fun _ => ?_) | refine And.intro (fun _ => ?_) (fun h => absurd h (by rw [e8]; decide)) | refine And.intro (fun h => absurd h (by rw [e8]; decide)) (fun _ => ?_))
    refine ⟨none, [], [(0, true), (1, true), (2, true), (3, true), (4, true), (5, true), (6, true), (7, true), (8, true), (9, true), (10, true), (11, true), (12, true), (13, true), (14, true), (15, true), (16, true), (17, true), (18, true), (19, true)], [], by kernel_rfl, ?_⟩
    (repeat first | refine ⟨fun _ => ?_, fun h => absurd h (by rw [e10]; decide)⟩ | refine ⟨fun h => absurd h (by rw [e10]; decide), fun _ => ?_⟩ | refine ⟨fun _ => ?_, fun h => Bool.noConfusion h⟩ | refine ⟨fun h => Bool.noConfusion h, fun _ => ?_⟩)
    obtain ⟨mm, hmm, hm1, hm2⟩ : ∃ mm : Nat, (if (q : Int) < (n : Int) then (q : Int) else (n : Int)) = (mm : Int) ∧ mm ≤ n ∧ mm ≤ q := by
      by_cases h : (q : Int) < (n : Int)
      · exact ⟨q, if_pos h, by omega, Nat.le_refl _⟩
      · exact ⟨n, if_neg h, Nat.le_refl _, by omega⟩
    have hmm' : ∀ _ : Unit, (if (q : Int) < (n : Int) then (q : Int) else (n : Int)) = (mm : Int) := fun _ => hmm
    rw [hmm]
    clear hmm
    have emm : ((mm : Nat) : Int).toNat = mm := by omega
    refine ⟨⟨by omega, by omega, by omega⟩, ?_⟩
    refine frcN_of (m := 0) rfl ?_
    refine frcN_of emm ?_
    refine frcN_of (m := 0) (by split <;> rfl) ?_
    refine frcN_of (m := mm) rfl ?_
    refine frcN_of (m := n) rfl ?_
    (repeat first | refine And.intro (by omega) ?_ | refine And.intro (by decide) ?_ | refine And.intro rfl ?_ | refine And.intro (fun _ => ?_) (fun h => Bool.noConfusion h) | refine And.intro (fun h => Bool.noConfusion h) (fun _ => ?_) | refine And.intro (fun _ => ?_) (fun h => absurd h (by rw [e1]; decide)) | refine And.intro (fun h => absurd h (by rw [e1]; decide)) (fun _ => ?_) | refine And.intro (fun _ => ?_) (fun h => absurd h (by rw [e4]; decide)) | refine And.intro (fun h => absurd h (by rw [e4]; decide)) (fun _ => ?_) | refine And.intro (fun _ => ?_) (fun h => absurd h (by rw [e5]; decide)) | refine And.intro (fun h => absurd h (by rw [e5]; decide)) (fun _ => ?_) | refine And.intro (fun _ => ?_) (fun h => absurd h (by rw [e7]; decide)) | refine And.intro (fun h => absurd h (by rw [e7]; decide)) (fun _ => ?_) | refine And.intro (fun _ => ?_) (fun h => absurd h (by rw [e9]; decide)) | refine And.intro (fun h => absurd h (by rw [e9]; decide)) (fun _ => ?_) | refine And.intro (fun _ => ?_) (fun h => absurd h (by rw [e10]; decide)) | refine And.intro (fun h => absurd h (by rw [e10]; decide)) (fun _ => ?_) | refine And.intro (fun _ => ?_) (fun h => absurd h (by rw [e8]; decide)) | refine And.intro (fun h => absurd h (by rw [e8]; decide)) (fun _ => ?_))
    refine sn_btsMk (g := bk 3 [0, 2]) (N := N) (n := n) (b := F) rfl (by omega) (fun h => by have := hz h; omega) hm1 (fun gx2 hg2 => ?_)
    refine ⟨U8 (tab mm F), str_of (tab_len mm F) (fun q hq => by rw [hg2 q hq, L_tab hq]), ?_⟩
    have e11 : decide (U8 (tab mm F) = U8 (tab mm F)) = true := decide_eq_true rfl
    (repeat first | refine ⟨fun _ => ?_, fun h => absurd h (by rw [e10]; decide)⟩ | refine ⟨fun h => absurd h (by rw [e10]; decide), fun _ => ?_⟩ | refine ⟨fun _ => ?_, fun h => Bool.noConfusion h⟩ | refine ⟨fun h => Bool.noConfusion h, fun _ => ?_⟩)
    rw [hmm' ()]
    refine ⟨⟨by omega, by omega, by omega⟩, ?_⟩
    refine frcN_of (m := 0) rfl ?_
    refine frcN_of emm ?_
    refine frcN_of (m := 0) (by split <;> rfl) ?_
    refine frcN_of (m := mm) rfl ?_
    refine frcN_of (m := q) rfl ?_
    (repeat first | refine And.intro (by omega) ?_ | refine And.intro (by decide) ?_ | refine And.intro rfl ?_ | refine And.intro (fun _ => ?_) (fun h => Bool.noConfusion h) | refine And.intro (fun h => Bool.noConfusion h) (fun _ => ?_) | refine And.intro (fun _ => ?_) (fun h => absurd h (by rw [e1]; decide)) | refine And.intro (fun h => absurd h (by rw [e1]; decide)) (fun _ => ?_) | refine And.intro (fun _ => ?_) (fun h => absurd h (by rw [e4]; decide)) | refine And.intro (fun h => absurd h (by rw [e4]; decide)) (fun _ => ?_) | refine And.intro (fun _ => ?_) (fun h => absurd h (by rw [e5]; decide)) | refine And.intro (fun h => absurd h (by rw [e5]; decide)) (fun _ => ?_) | refine And.intro (fun _ => ?_) (fun h => absurd h (by rw [e7]; decide)) | refine And.intro (fun h => absurd h (by rw [e7]; decide)) (fun _ => ?_) | refine And.intro (fun _ => ?_) (fun h => absurd h (by rw [e9]; decide)) | refine And.intro (fun h => absurd h (by rw [e9]; decide)) (fun _ => ?_) | refine And.intro (fun _ => ?_) (fun h => absurd h (by rw [e10]; decide)) | refine And.intro (fun h => absurd h (by rw [e10]; decide)) (fun _ => ?_) | refine And.intro (fun _ => ?_) (fun h => absurd h (by rw [e8]; decide)) | refine And.intro (fun h => absurd h (by rw [e8]; decide)) (fun _ => ?_) | refine And.intro (fun _ => ?_) (fun h => absurd h (by rw [e11]; decide)) | refine And.intro (fun h => absurd h (by rw [e11]; decide)) (fun _ => ?_))
    refine sn_btsMk (g := bk 4 [0, 2]) (N := N2) (n := q) (b := F) rfl (by omega) (fun h => by have := hz22 h; omega) hm2 (fun gx3 hg3 => ?_)
    refine ⟨U8 (tab mm F), str_of (tab_len mm F) (fun q hq => by rw [hg3 q hq, L_tab hq]), ?_⟩
    (repeat first | refine And.intro (by omega) ?_ | refine And.intro (by decide) ?_ | refine And.intro rfl ?_ | refine And.intro (fun _ => ?_) (fun h => Bool.noConfusion h) | refine And.intro (fun h => Bool.noConfusion h) (fun _ => ?_) | refine And.intro (fun _ => ?_) (fun h => absurd h (by rw [e1]; decide)) | refine And.intro (fun h => absurd h (by rw [e1]; decide)) (fun _ => ?_) | refine And.intro (fun _ => ?_) (fun h => absurd h (by rw [e4]; decide)) | refine And.intro (fun h => absurd h (by rw [e4]; decide)) (fun _ => ?_) | refine And.intro (fun _ => ?_) (fun h => absurd h (by rw [e5]; decide)) | refine And.intro (fun h => absurd h (by rw [e5]; decide)) (fun _ => ?_) | refine And.intro (fun _ => ?_) (fun h => absurd h (by rw [e7]; decide)) | refine And.intro (fun h => absurd h (by rw [e7]; decide)) (fun _ => ?_) | refine And.intro (fun _ => ?_) (fun h => absurd h (by rw [e9]; decide)) | refine And.intro (fun h => absurd h (by rw [e9]; decide)) (fun _ => ?_) | refine And.intro (fun _ => ?_) (fun h => absurd h (by rw [e10]; decide)) | refine And.intro (fun h => absurd h (by rw [e10]; decide)) (fun _ => ?_) | refine And.intro (fun _ => ?_) (fun h => absurd h (by rw [e8]; decide)) | refine And.intro (fun h => absurd h (by rw [e8]; decide)) (fun _ => ?_) | refine And.intro (fun _ => ?_) (fun h => absurd h (by rw [e11]; decide)) | refine And.intro (fun h => absurd h (by rw [e11]; decide)) (fun _ => ?_))
    exact ⟨.a (.c (.bool true)), [[]], ⟨[0], ⟨rfl, rfl, rfl⟩, e11, eqSegs_nil trivial⟩, rfl⟩
  · by_cases hf3 : 0 ≤ t
    · skip
      obtain ⟨rfl, rfl⟩ := hbad2 (.inr (by omega))
      clear hbad2 hgood2
      have e4 : decide ((0 : Int) ≤ t) = true := decide_eq_true (by omega)
      have e5 : decide (t ≤ 8160) = false := decide_eq_false (by omega)
      have e7 : (!(decide ((2 : Int) = 0) == decide (t ≤ 8160))) = false := by rw [e5]; rfl
      have e10 : (!decide (t ≤ 8160)) = true := by rw [e5]; rfl
      (repeat first | refine And.intro (by omega) ?_ | refine And.intro (by decide) ?_ | refine And.intro rfl ?_ | refine And.intro (fun _ => ?_) (fun h => Bool.noConfusion h) | refine And.intro (fun h => Bool.noConfusion h) (fun _ => ?_) | refine And.intro (fun _ => ?_) (fun h => absurd h (by rw [e1]; decide)) | refine And.intro (fun h => absurd h (by rw [e1]; decide)) (fun _ => ?_) | refine And.intro (fun _ => ?_) (fun h => absurd h (by rw [e4]; decide)) | refine And.intro (fun h => absurd h (by rw [e4]; decide)) (fun _ => ?_) | refine And.intro (fun _ => ?_) (fun h => absurd h (by rw [e5]; decide)) | refine And.intro (fun h => absurd h (by rw [e5]; decide)) (fun _ => ?_) | refine And.intro (fun _ => ?_) (fun h => absurd h (by rw [e7]; decide)) | refine And.intro (fun h => absurd h (by rw [e7]; decide)) (fun _ => ?_) | refine And.intro (fun _ => ?_) (fun h => absurd h (by rw [e10]; decide)) | refine And.intro (fun h => absurd h (by rw [e10]; decide)) (fun _ => ?_))
      rw [ht]
      (repeat first | refine And.intro (by omega) ?_ | refine And.intro (by decide) ?_ | refine And.intro rfl ?_ | refine And.intro (fun _ => ?_) (fun h => Bool.noConfusion h) | refine And.intro (fun h => Bool.noConfusion h) (fun _ => ?_) | refine And.intro (fun _ => ?_) (fun h => absurd h (by rw [e1]; decide)) | refine And.intro (fun h => absurd h (by rw [e1]; decide)) (fun _ => ?_) | refine And.intro (fun _ => ?_) (fun h => absurd h (by rw [e4]; decide)) | refine And.intro (fun h => absurd h (by rw [e4]; decide)) (fun _ => ?_) | refine And.intro (fun _ => ?_) (fun h => absurd h (by rw [e5]; decide)) | refine And.intro (fun h => absurd h (by rw [e5]; decide)) (fun _ => ?_) | refine And.intro (fun _ => ?_) (fun h => absurd h (by rw [e7]; decide)) | refine And.intro (fun h => absurd h (by rw [e7]; decide)) (fun _ => ?_) | refine And.intro (fun _ => ?_) (fun h => absurd h (by rw [e10]; decide)) | refine And.intro (fun h => absurd h (by rw [e10]; decide)) (fun _ => ?_))
      try rw [ht]
      refine ⟨none, [], [(0, true), (1, true), (2, true), (3, true), (4, true), (5, true), (6, true), (7, true), (8, false), (9, true), (10, true), (11, true), (12, true), (13, true), (14, true), (15, true), (16, true), (17, true), (18, true), (19, true), (20, true), (21, true), (22, true), (23, true), (24, true), (25, true), (26, true), (27, true), (28, true), (29, true), (30, true), (31, true), (32, true), (33, true), (34, true), (35, true), (36, true), (37, true), (38, true), (39, true), (40, true)], [], by kernel_rfl, ?_⟩
      (repeat first | refine And.intro (by omega) ?_ | refine And.intro (by decide) ?_ | refine And.intro rfl ?_ | refine And.intro (fun _ => ?_) (fun h => Bool.noConfusion h) | refine And.intro (fun h => Bool.noConfusion h) (fun _ => ?_) | refine And.intro (fun _ => ?_) (fun h => absurd h (by rw [e1]; decide)) | refine And.intro (fun h => absurd h (by rw [e1]; decide)) (fun _ => ?_) | refine And.intro (fun _ => ?_) (fun h => absurd h (by rw [e4]; decide)) | refine And.intro (fun h => absurd h (by rw [e4]; decide)) (fun _ => ?_) | refine And.intro (fun _ => ?_) (fun h => absurd h (by rw [e5]; decide)) | refine And.intro (fun h => absurd h (by rw [e5]; decide)) (fun _ => ?_) | refine And.intro (fun _ => ?_) (fun h => absurd h (by rw [e7]; decide)) | refine And.intro (fun h => absurd h (by rw [e7]; decide)) (fun _ => ?_) | refine And.intro (fun _ => ?_) (fun h => absurd h (by rw [e10]; decide)) | refine And.intro (fun h => absurd h (by rw [e10]; decide)) (fun _ => ?_))
      refine sn_btsM (g := bk 3 [0, 2]) (N := N) (b := F) ?_ (by omega) hz (fun gx hg => ?_)
      · rfl
      refine ⟨U8 (tab n F), str_of (tab_len n F) (fun q hq => by rw [hg q hq, L_tab hq]), ?_⟩
      (repeat first | refine And.intro (by omega) ?_ | refine And.intro (by decide) ?_ | refine And.intro rfl ?_ | refine And.intro (fun _ => ?_) (fun h => Bool.noConfusion h) | refine And.intro (fun h => Bool.noConfusion h) (fun _ => ?_) | refine And.intro (fun _ => ?_) (fun h => absurd h (by rw [e1]; decide)) | refine And.intro (fun h => absurd h (by rw [e1]; decide)) (fun _ => ?_) | refine And.intro (fun _ => ?_) (fun h => absurd h (by rw [e4]; decide)) | refine And.intro (fun h => absurd h (by rw [e4]; decide)) (fun _ => ?_) | refine And.intro (fun _ => ?_) (fun h => absurd h (by rw [e5]; decide)) | refine And.intro (fun h => absurd h (by rw [e5]; decide)) (fun _ => ?_) | refine And.intro (fun _ => ?_) (fun h => absurd h (by rw [e7]; decide)) | refine And.intro (fun h => absurd h (by rw [e7]; decide)) (fun _ => ?_) | refine And.intro (fun _ => ?_) (fun h => absurd h (by rw [e10]; decide)) | refine And.intro (fun h => absurd h (by rw [e10]; decide)) (fun _ => ?_))
      refine call_same hlab [1, 0] rfl (by (repeat first | exact trivial | refine ⟨rfl, ?_⟩ | refine ⟨fun _ _ => ⟨rfl, trivial⟩, ?_⟩ | refine ⟨fun _ _ => trivial, ?_⟩ | refine ⟨by omega, ?_⟩ | refine ⟨fun _ _ => eqC_winS, ?_⟩ | refine ⟨fun _ _ => eqC_winM, ?_⟩ | refine ⟨fun _ _ => eqC_winB, ?_⟩ | refine ⟨fun _ _ => eqC_selfB, ?_⟩ | refine ⟨fun _ _ => eqC_mpB, ?_⟩); refine ⟨hs.symm, ?_⟩; (repeat first | exact trivial | refine ⟨rfl, ?_⟩ | refine ⟨fun _ _ => ⟨rfl, trivial⟩, ?_⟩ | refine ⟨fun _ _ => trivial, ?_⟩ | refine ⟨by omega, ?_⟩ | refine ⟨fun _ _ => eqC_winS, ?_⟩ | refine ⟨fun _ _ => eqC_winM, ?_⟩ | refine ⟨fun _ _ => eqC_winB, ?_⟩ | refine ⟨fun _ _ => eqC_selfB, ?_⟩ | refine ⟨fun _ _ => eqC_mpB, ?_⟩)) ?_ (fun _ _ => trivial) ?_
      · exact ⟨rfl, fun j hj => eqC_win0 (fun i hi => rfl) j, eqC_bts trivial⟩
      rintro x hs' ⟨g0, g1⟩
      by_cases hn0' : n = 0
      · obtain ⟨rfl, rfl⟩ := g0 hn0'
        clear g0 g1 hlab
        have hu : U8 (tab n F) = [] := by rw [hn0']; rfl
        rw [hu]
        have e8 : (!decide (([] : List UInt8) = [])) = false := rfl
        (repeat first | refine And.intro (by omega) ?_ | refine And.intro (by decide) ?_ | refine And.intro rfl ?_ | refine And.intro (fun _ => ?_) (fun h => Bool.noConfusion h) | refine And.intro (fun h => Bool.noConfusion h) (fun _ => ?_) | refine And.intro (fun _ => ?_) (fun h => absurd h (by rw [e1]; decide)) | refine And.intro (fun h => absurd h (by rw [e1]; decide)) (fun _ => ?_) | refine And.intro (fun _ => ?_) (fun h => absurd h (by rw [e4]; decide)) | refine And.intro (fun h => absurd h (by rw [e4]; decide)) (fun _ => ?_) | refine And.intro (fun _ => ?_) (fun h => absurd h (by rw [e5]; decide)) | refine And.intro (fun h => absurd h (by rw [e5]; decide)) (fun _ => ?_) | refine And.intro (fun _ => ?_) (fun h => absurd h (by rw [e7]; decide)) | refine And.intro (fun h => absurd h (by rw [e7]; decide)) (fun _ => ?_) | refine And.intro (fun _ => ?_) (fun h => absurd h (by rw [e10]; decide)) | refine And.intro (fun h => absurd h (by rw [e10]; decide)) (fun _ => ?_))
        refine ⟨[], ⟨rfl, fun q hq => absurd hq (by omega)⟩, ?_⟩
        (repeat first | refine And.intro (by omega) ?_ | refine And.intro (by decide) ?_ | refine And.intro rfl ?_ | refine And.intro (fun _ => ?_) (fun h => Bool.noConfusion h) | refine And.intro (fun h => Bool.noConfusion h) (fun _ => ?_) | refine And.intro (fun _ => ?_) (fun h => absurd h (by rw [e1]; decide)) | refine And.intro (fun h => absurd h (by rw [e1]; decide)) (fun _ => ?_) | refine And.intro (fun _ => ?_) (fun h => absurd h (by rw [e4]; decide)) | refine And.intro (fun h => absurd h (by rw [e4]; decide)) (fun _ => ?_) | refine And.intro (fun _ => ?_) (fun h => absurd h (by rw [e5]; decide)) | refine And.intro (fun h => absurd h (by rw [e5]; decide)) (fun _ => ?_) | refine And.intro (fun _ => ?_) (fun h => absurd h (by rw [e7]; decide)) | refine And.intro (fun h => absurd h (by rw [e7]; decide)) (fun _ => ?_) | refine And.intro (fun _ => ?_) (fun h => absurd h (by rw [e10]; decide)) | refine And.intro (fun h => absurd h (by rw [e10]; decide)) (fun _ => ?_) | refine And.intro (fun _ => ?_) (fun h => absurd h (by rw [e8]; decide)) | refine And.intro (fun h => absurd h (by rw [e8]; decide)) (fun _ => ?_))
        refine ⟨none, [], [(0, true), (1, true), (2, true), (3, true), (4, true), (5, true), (6, true), (7, true), (8, true), (9, true), (10, true), (11, true), (12, true), (13, true), (14, true), (15, true), (16, true), (17, true), (18, true), (19, true)], [], by kernel_rfl, ?_⟩
        (repeat first | refine And.intro (by omega) ?_ | refine And.intro (by decide) ?_ | refine And.intro rfl ?_ | refine And.intro (fun _ => ?_) (fun h => Bool.noConfusion h) | refine And.intro (fun h => Bool.noConfusion h) (fun _ => ?_) | refine And.intro (fun _ => ?_) (fun h => absurd h (by rw [e1]; decide)) | refine And.intro (fun h => absurd h (by rw [e1]; decide)) (fun _ => ?_) | refine And.intro (fun _ => ?_) (fun h => absurd h (by rw [e4]; decide)) | refine And.intro (fun h => absurd h (by rw [e4]; decide)) (fun _ => ?_) | refine And.intro (fun _ => ?_) (fun h => absurd h (by rw [e5]; decide)) | refine And.intro (fun h => absurd h (by rw [e5]; decide)) (fun _ => ?_) | refine And.intro (fun _ => ?_) (fun h => absurd h (by rw [e7]; decide)) | refine And.intro (fun h => absurd h (by rw [e7]; decide)) (fun _ => ?_) | refine And.intro (fun _ => ?_) (fun h => absurd h (by rw [e10]; decide)) | refine And.intro (fun h => absurd h (by rw [e10]; decide)) (fun _ => ?_) | refine And.intro (fun _ => ?_) (fun h => absurd h (by rw [e8]; decide)) | refine And.intro (fun h => absurd h (by rw [e8]; decide)) (fun _ => ?_))
        exact ⟨.a (.c (.bool true)), [[]], ⟨[0], ⟨rfl, rfl, rfl⟩, rfl, eqSegs_nil trivial⟩, rfl⟩
      obtain ⟨N9, c9, hN9, hc9, rfl, rfl⟩ := g1 (Nat.pos_of_ne_zero hn0')
      clear g0 g1 hlab
      have e8 : (!decide (U8 (tab n F) = U8 (tab n F))) = false := by rw [decide_eq_true rfl]; rfl
      (repeat first | refine And.intro (by omega) ?_ | refine And.intro (by decide) ?_ | refine And.intro rfl ?_ | refine And.intro (fun _ => ?_) (fun h => Bool.noConfusion h) | refine And.intro (fun h => Bool.noConfusion h) (fun _ => ?_) | refine And.intro (fun _ => ?_) (fun h => absurd h (by rw [e1]; decide)) | refine And.intro (fun h => absurd h (by rw [e1]; decide)) (fun _ => ?_) | refine And.intro (fun _ => ?_) (fun h => absurd h (by rw [e4]; decide)) | refine And.intro (fun h => absurd h (by rw [e4]; decide)) (fun _ => ?_) | refine And.intro (fun _ => ?_) (fun h => absurd h (by rw [e5]; decide)) | refine And.intro (fun h => absurd h (by rw [e5]; decide)) (fun _ => ?_) | refine And.intro (fun _ => ?_) (fun h => absurd h (by rw [e7]; decide)) | refine And.intro (fun h => absurd h (by rw [e7]; decide)) (fun _ => ?_) | refine And.intro (fun _ => ?_) (fun h => absurd h (by rw [e10]; decide)) | refine And.intro (fun h => absurd h (by rw [e10]; decide)) (fun _ => ?_))
      try refine And.intro (by simp only [scale]; omega) ?_
      refine ⟨U8 (tab n F), str_of (tab_len n F) (fun q hq => ?_), ?_⟩
      · show SC.mp _ (winF 0 n F (q + 0)) = _
        have := winF_at 0 n F hq
        rw [Nat.zero_add] at this
        rw [Nat.add_zero, this, L_tab hq]
        rfl
      (repeat first | refine And.intro (by omega) ?_ | refine And.intro (by decide) ?_ | refine And.intro rfl ?_ | refine And.intro (fun _ => ?_) (fun h => Bool.noConfusion h) | refine And.intro (fun h => Bool.noConfusion h) (fun _ => ?_) | refine And.intro (fun _ => ?_) (fun h => absurd h (by rw [e1]; decide)) | refine And.intro (fun h => absurd h (by rw [e1]; decide)) (fun _ => ?_) | refine And.intro (fun _ => ?_) (fun h => absurd h (by rw [e4]; decide)) | refine And.intro (fun h => absurd h (by rw [e4]; decide)) (fun _ => ?_) | refine And.intro (fun _ => ?_) (fun h => absurd h (by rw [e5]; decide)) | refine And.intro (fun h => absurd h (by rw [e5]; decide)) (fun _ => ?_) | refine And.intro (fun _ => ?_) (fun h => absurd h (by rw [e7]; decide)) | refine And.intro (fun h => absurd h (by rw [e7]; decide)) (fun _ => ?_) | refine And.intro (fun _ => ?_) (fun h => absurd h (by rw [e10]; decide)) | refine And.intro (fun h => absurd h (by rw [e10]; decide)) (fun _ => ?_) | refine And.intro (fun _ => ?_) (fun h => absurd h (by rw [e8]; decide)) | refine And.intro (fun h => absurd h (by rw [e8]; decide)) (fun _ => ?_))
      refine ⟨none, [], [(0, true), (1, true), (2, true), (3, true), (4, true), (5, true), (6, true), (7, true), (8, true), (9, true), (10, true), (11, true), (12, true), (13, true), (14, true), (15, true), (16, true), (17, true), (18, true), (19, true)], [], by kernel_rfl, ?_⟩
      (repeat first | refine And.intro (by omega) ?_ | refine And.intro (by decide) ?_ | refine And.intro rfl ?_ | refine And.intro (fun _ => ?_) (fun h => Bool.noConfusion h) | refine And.intro (fun h => Bool.noConfusion h) (fun _ => ?_) | refine And.intro (fun _ => ?_) (fun h => absurd h (by rw [e1]; decide)) | refine And.intro (fun h => absurd h (by rw [e1]; decide)) (fun _ => ?_) | refine And.intro (fun _ => ?_) (fun h => absurd h (by rw [e4]; decide)) | refine And.intro (fun h => absurd h (by rw [e4]; decide)) (fun _ => ?_) | refine And.intro (fun _ => ?_) (fun h => absurd h (by rw [e5]; decide)) | refine And.intro (fun h => absurd h (by rw [e5]; decide)) (fun _ => ?_) | refine And.intro (fun _ => ?_) (fun h => absurd h (by rw [e7]; decide)) | refine And.intro (fun h => absurd h (by rw [e7]; decide)) (fun _ => ?_) | refine And.intro (fun _ => ?_) (fun h => absurd h (by rw [e10]; decide)) | refine And.intro (fun h => absurd h (by rw [e10]; decide)) (fun _ => ?_) | refine And.intro (fun _ => ?_) (fun h => absurd h (by rw [e8]; decide)) | refine And.intro (fun h => absurd h (by rw [e8]; decide)) (fun _ => ?_))
      exact ⟨.a (.c (.bool true)), [[]], ⟨[0], ⟨rfl, rfl, rfl⟩, rfl, eqSegs_nil trivial⟩, rfl⟩
    · skip
      obtain ⟨rfl, rfl⟩ := hbad2 (.inl (by omega))
      clear hbad2 hgood2
      have e4 : decide ((0 : Int) ≤ t) = false := decide_eq_false (by omega)
      have e7 : (!(decide ((2 : Int) = 0) == false)) = false := rfl
      have e10 : (!false) = true := rfl
      (repeat first | refine And.intro (by omega) ?_ | refine And.intro (by decide) ?_ | refine And.intro rfl ?_ | refine And.intro (fun _ => ?_) (fun h => Bool.noConfusion h) | refine And.intro (fun h => Bool.noConfusion h) (fun _ => ?_) | refine And.intro (fun _ => ?_) (fun h => absurd h (by rw [e1]; decide)) | refine And.intro (fun h => absurd h (by rw [e1]; decide)) (fun _ => ?_) | refine And.intro (fun _ => ?_) (fun h => absurd h (by rw [e4]; decide)) | refine And.intro (fun h => absurd h (by rw [e4]; decide)) (fun _ => ?_) | refine And.intro (fun _ => ?_) (fun h => absurd h (by rw [e7]; decide)) | refine And.intro (fun h => absurd h (by rw [e7]; decide)) (fun _ => ?_) | refine And.intro (fun _ => ?_) (fun h => absurd h (by rw [e10]; decide)) | refine And.intro (fun h => absurd h (by rw [e10]; decide)) (fun _ => ?_))
      rw [ht]
      (repeat first | refine And.intro (by omega) ?_ | refine And.intro (by decide) ?_ | refine And.intro rfl ?_ | refine And.intro (fun _ => ?_) (fun h => Bool.noConfusion h) | refine And.intro (fun h => Bool.noConfusion h) (fun _ => ?_) | refine And.intro (fun _ => ?_) (fun h => absurd h (by rw [e1]; decide)) | refine And.intro (fun h => absurd h (by rw [e1]; decide)) (fun _ => ?_) | refine And.intro (fun _ => ?_) (fun h => absurd h (by rw [e4]; decide)) | refine And.intro (fun h => absurd h (by rw [e4]; decide)) (fun _ => ?_) | refine And.intro (fun _ => ?_) (fun h => absurd h (by rw [e7]; decide)) | refine And.intro (fun h => absurd h (by rw [e7]; decide)) (fun _ => ?_) | refine And.intro (fun _ => ?_) (fun h => absurd h (by rw [e10]; decide)) | refine And.intro (fun h => absurd h (by rw [e10]; decide)) (fun _ => ?_))
      try rw [ht]
      refine ⟨none, [], [(0, true), (1, true), (2, true), (3, true), (4, true), (5, true), (6, true), (7, true), (8, false), (9, true), (10, true), (11, true), (12, true), (13, true), (14, true), (15, true), (16, true), (17, true), (18, true), (19, true), (20, true), (21, true), (22, true), (23, true), (24, true), (25, true), (26, true), (27, true), (28, true), (29, true), (30, true), (31, true), (32, true), (33, true), (34, true), (35, true), (36, true), (37, true), (38, true), (39, true), (40, true)], [], by kernel_rfl, ?_⟩
      (repeat first | refine And.intro (by omega) ?_ | refine And.intro (by decide) ?_ | refine And.intro rfl ?_ | refine And.intro (fun _ => ?_) (fun h => Bool.noConfusion h) | refine And.intro (fun h => Bool.noConfusion h) (fun _ => ?_) | refine And.intro (fun _ => ?_) (fun h => absurd h (by rw [e1]; decide)) | refine And.intro (fun h => absurd h (by rw [e1]; decide)) (fun _ => ?_) | refine And.intro (fun _ => ?_) (fun h => absurd h (by rw [e4]; decide)) | refine And.intro (fun h => absurd h (by rw [e4]; decide)) (fun _ => ?_) | refine And.intro (fun _ => ?_) (fun h => absurd h (by rw [e7]; decide)) | refine And.intro (fun h => absurd h (by rw [e7]; decide)) (fun _ => ?_) | refine And.intro (fun _ => ?_) (fun h => absurd h (by rw [e10]; decide)) | refine And.intro (fun h => absurd h (by rw [e10]; decide)) (fun _ => ?_))
      refine sn_btsM (g := bk 3 [0, 2]) (N := N) (b := F) ?_ (by omega) hz (fun gx hg => ?_)
      · rfl
      refine ⟨U8 (tab n F), str_of (tab_len n F) (fun q hq => by rw [hg q hq, L_tab hq]), ?_⟩
      (repeat first | refine And.intro (by omega) ?_ | refine And.intro (by decide) ?_ | refine And.intro rfl ?_ | refine And.intro (fun _ => ?_) (fun h => Bool.noConfusion h) | refine And.intro (fun h => Bool.noConfusion h) (fun _ => ?_) | refine And.intro (fun _ => ?_) (fun h => absurd h (by rw [e1]; decide)) | refine And.intro (fun h => absurd h (by rw [e1]; decide)) (fun _ => ?_) | refine And.intro (fun _ => ?_) (fun h => absurd h (by rw [e4]; decide)) | refine And.intro (fun h => absurd h (by rw [e4]; decide)) (fun _ => ?_) | refine And.intro (fun _ => ?_) (fun h => absurd h (by rw [e7]; decide)) | refine And.intro (fun h => absurd h (by rw [e7]; decide)) (fun _ => ?_) | refine And.intro (fun _ => ?_) (fun h => absurd h (by rw [e10]; decide)) | refine And.intro (fun h => absurd h (by rw [e10]; decide)) (fun _ => ?_))
      refine call_same hlab [1, 0] rfl (by (repeat first | exact trivial | refine ⟨rfl, ?_⟩ | refine ⟨fun _ _ => ⟨rfl, trivial⟩, ?_⟩ | refine ⟨fun _ _ => trivial, ?_⟩ | refine ⟨by omega, ?_⟩ | refine ⟨fun _ _ => eqC_winS, ?_⟩ | refine ⟨fun _ _ => eqC_winM, ?_⟩ | refine ⟨fun _ _ => eqC_winB, ?_⟩ | refine ⟨fun _ _ => eqC_selfB, ?_⟩ | refine ⟨fun _ _ => eqC_mpB, ?_⟩); refine ⟨hs.symm, ?_⟩; (repeat first | exact trivial | refine ⟨rfl, ?_⟩ | refine ⟨fun _ _ => ⟨rfl, trivial⟩, ?_⟩ | refine ⟨fun _ _ => trivial, ?_⟩ | refine ⟨by omega, ?_⟩ | refine ⟨fun _ _ => eqC_winS, ?_⟩ | refine ⟨fun _ _ => eqC_winM, ?_⟩ | refine ⟨fun _ _ => eqC_winB, ?_⟩ | refine ⟨fun _ _ => eqC_selfB, ?_⟩ | refine ⟨fun _ _ => eqC_mpB, ?_⟩)) ?_ (fun _ _ => trivial) ?_
      · exact ⟨rfl, fun j hj => eqC_win0 (fun i hi => rfl) j, eqC_bts trivial⟩
      rintro x hs' ⟨g0, g1⟩
      by_cases hn0' : n = 0
      · obtain ⟨rfl, rfl⟩ := g0 hn0'
        clear g0 g1 hlab
        have hu : U8 (tab n F) = [] := by rw [hn0']; rfl
        rw [hu]
        have e8 : (!decide (([] : List UInt8) = [])) = false := rfl
        (repeat first | refine And.intro (by omega) ?_ | refine And.intro (by decide) ?_ | refine And.intro rfl ?_ | refine And.intro (fun _ => ?_) (fun h => Bool.noConfusion h) | refine And.intro (fun h => Bool.noConfusion h) (fun _ => ?_) | refine And.intro (fun _ => ?_) (fun h => absurd h (by rw [e1]; decide)) | refine And.intro (fun h => absurd h (by rw [e1]; decide)) (fun _ => ?_) | refine And.intro (fun _ => ?_) (fun h => absurd h (by rw [e4]; decide)) | refine And.intro (fun h => absurd h (by rw [e4]; decide)) (fun _ => ?_) | refine And.intro (fun _ => ?_) (fun h => absurd h (by rw [e7]; decide)) | refine And.intro (fun h => absurd h (by rw [e7]; decide)) (fun _ => ?_) | refine And.intro (fun _ => ?_) (fun h => absurd h (by rw [e10]; decide)) | refine And.intro (fun h => absurd h (by rw [e10]; decide)) (fun _ => ?_))
        refine ⟨[], ⟨rfl, fun q hq => absurd hq (by omega)⟩, ?_⟩
        (repeat first | refine And.intro (by omega) ?_ | refine And.intro (by decide) ?_ | refine And.intro rfl ?_ | refine And.intro (fun _ => ?_) (fun h => Bool.noConfusion h) | refine And.intro (fun h => Bool.noConfusion h) (fun _ => ?_) | refine And.intro (fun _ => ?_) (fun h => absurd h (by rw [e1]; decide)) | refine And.intro (fun h => absurd h (by rw [e1]; decide)) (fun _ => ?_) | refine And.intro (fun _ => ?_) (fun h => absurd h (by rw [e4]; decide)) | refine And.intro (fun h => absurd h (by rw [e4]; decide)) (fun _ => ?_) | refine And.intro (fun _ => ?_) (fun h => absurd h (by rw [e7]; decide)) | refine And.intro (fun h => absurd h (by rw [e7]; decide)) (fun _ => ?_) | refine And.intro (fun _ => ?_) (fun h => absurd h (by rw [e10]; decide)) | refine And.intro (fun h => absurd h (by rw [e10]; decide)) (fun _ => ?_) | refine And.intro (fun _ => ?_) (fun h => absurd h (by rw [e8]; decide)) | refine And.intro (fun h => absurd h (by rw [e8]; decide)) (fun _ => ?_))
        refine ⟨none, [], [(0, true), (1, true), (2, true), (3, true), (4, true), (5, true), (6, true), (7, true), (8, true), (9, true), (10, true), (11, true), (12, true), (13, true), (14, true), (15, true), (16, true), (17, true), (18, true), (19, true)], [], by kernel_rfl, ?_⟩
        (repeat first | refine And.intro (by omega) ?_ | refine And.intro (by decide) ?_ | refine And.intro rfl ?_ | refine And.intro (fun _ => ?_) (fun h => Bool.noConfusion h) | refine And.intro (fun h => Bool.noConfusion h) (fun _ => ?_) | refine And.intro (fun _ => ?_) (fun h => absurd h (by rw [e1]; decide)) | refine And.intro (fun h => absurd h (by rw [e1]; decide)) (fun _ => ?_) | refine And.intro (fun _ => ?_) (fun h => absurd h (by rw [e4]; decide)) | refine And.intro (fun h => absurd h (by rw [e4]; decide)) (fun _ => ?_) | refine And.intro (fun _ => ?_) (fun h => absurd h (by rw [e7]; decide)) | refine And.intro (fun h => absurd h (by rw [e7]; decide)) (fun _ => ?_) | refine And.intro (fun _ => ?_) (fun h => absurd h (by rw [e10]; decide)) | refine And.intro (fun h => absurd h (by rw [e10]; decide)) (fun _ => ?_) | refine And.intro (fun _ => ?_) (fun h => absurd h (by rw [e8]; decide)) | refine And.intro (fun h => absurd h (by rw [e8]; decide)) (fun _ => ?_))
        exact ⟨.a (.c (.bool true)), [[]], ⟨[0], ⟨rfl, rfl, rfl⟩, rfl, eqSegs_nil trivial⟩, rfl⟩
      obtain ⟨N9, c9, hN9, hc9, rfl, rfl⟩ := g1 (Nat.pos_of_ne_zero hn0')
      clear g0 g1 hlab
      have e8 : (!decide (U8 (tab n F) = U8 (tab n F))) = false := by rw [decide_eq_true rfl]; rfl
      (repeat first | refine And.intro (by omega) ?_ | refine And.intro (by decide) ?_ | refine And.intro rfl ?_ | refine And.intro (fun _ => ?_) (fun h => Bool.noConfusion h) | refine And.intro (fun h => Bool.noConfusion h) (fun _ => ?_) | refine And.intro (fun _ => ?_) (fun h => absurd h (by rw [e1]; decide)) | refine And.intro (fun h => absurd h (by rw [e1]; decide)) (fun _ => ?_) | refine And.intro (fun _ => ?_) (fun h => absurd h (by rw [e4]; decide)) | refine And.intro (fun h => absurd h (by rw [e4]; decide)) (fun _ => ?_) | refine And.intro (fun _ => ?_) (fun h => absurd h (by rw [e7]; decide)) | refine And.intro (fun h => absurd h (by rw [e7]; decide)) (fun _ => ?_) | refine And.intro (fun _ => ?_) (fun h => absurd h (by rw [e10]; decide)) | refine And.intro (fun h => absurd h (by rw [e10]; decide)) (fun _ => ?_))
      try refine And.intro (by simp only [scale]; omega) ?_
      refine ⟨U8 (tab n F), str_of (tab_len n F) (fun q hq => ?_), ?_⟩
      · show SC.mp _ (winF 0 n F (q + 0)) = _
        have := winF_at 0 n F hq
        rw [Nat.zero_add] at this
        rw [Nat.add_zero, this, L_tab hq]
        rfl
      (repeat first | refine And.intro (by omega) ?_ | refine And.intro (by decide) ?_ | refine And.intro rfl ?_ | refine And.intro (fun _ => ?_) (fun h => Bool.noConfusion h) | refine And.intro (fun h => Bool.noConfusion h) (fun _ => ?_) | refine And.intro (fun _ => ?_) (fun h => absurd h (by rw [e1]; decide)) | refine And.intro (fun h => absurd h (by rw [e1]; decide)) (fun _ => ?_) | refine And.intro (fun _ => ?_) (fun h => absurd h (by rw [e4]; decide)) | refine And.intro (fun h => absurd h (by rw [e4]; decide)) (fun _ => ?_) | refine And.intro (fun _ => ?_) (fun h => absurd h (by rw [e7]; decide)) | refine And.intro (fun h => absurd h (by rw [e7]; decide)) (fun _ => ?_) | refine And.intro (fun _ => ?_) (fun h => absurd h (by rw [e10]; decide)) | refine And.intro (fun h => absurd h (by rw [e10]; decide)) (fun _ => ?_) | refine And.intro (fun _ => ?_) (fun h => absurd h (by rw [e8]; decide)) | refine And.intro (fun h => absurd h (by rw [e8]; decide)) (fun _ => ?_))
      refine ⟨none, [], [(0, true), (1, true), (2, true), (3, true), (4, true), (5, true), (6, true), (7, true), (8, true), (9, true), (10, true), (11, true), (12, true), (13, true), (14, true), (15, true), (16, true), (17, true), (18, true), (19, true)], [], by kernel_rfl, ?_⟩
      (repeat first | refine And.intro (by omega) ?_ | refine And.intro (by decide) ?_ | refine And.intro rfl ?_ | refine And.intro (fun _ => ?_) (fun h => Bool.noConfusion h) | refine And.intro (fun h => Bool.noConfusion h) (fun _ => ?_) | refine And.intro (fun _ => ?_) (fun h => absurd h (by rw [e1]; decide)) | refine And.intro (fun h => absurd h (by rw [e1]; decide)) (fun _ => ?_) | refine And.intro (fun _ => ?_) (fun h => absurd h (by rw [e4]; decide)) | refine And.intro (fun h => absurd h (by rw [e4]; decide)) (fun _ => ?_) | refine And.intro (fun _ => ?_) (fun h => absurd h (by rw [e7]; decide)) | refine And.intro (fun h => absurd h (by rw [e7]; decide)) (fun _ => ?_) | refine And.intro (fun _ => ?_) (fun h => absurd h (by rw [e10]; decide)) | refine And.intro (fun h => absurd h (by rw [e10]; decide)) (fun _ => ?_) | refine And.intro (fun _ => ?_) (fun h => absurd h (by rw [e8]; decide)) | refine And.intro (fun h => absurd h (by rw [e8]; decide)) (fun _ => ?_))
      exact ⟨.a (.c (.bool true)), [[]], ⟨[0], ⟨rfl, rfl, rfl⟩, rfl, eqSegs_nil trivial⟩, rfl⟩
end Sx
end Go.Proofs.Ytndlhhhebijknaa
end
