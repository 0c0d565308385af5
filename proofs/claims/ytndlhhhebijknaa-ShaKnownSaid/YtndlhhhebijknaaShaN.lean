/-
  SHA-256's rounds as the program makes them: plain functions. No condition.
-/
import Derived.Test.YtndlhhhebijknaaShaM
namespace Go.Proofs.Ytndlhhhebijknaa
set_option linter.unusedVariables false
namespace Sha

/-- Turned right. -/
def ror (x : BitVec 32) (n : Nat) : BitVec 32 := x <<< (32 - n) ||| x >>> n
def w0 (P : Nat → BitVec 8) (i : Nat) : BitVec 32 :=
  (P (4 * i)).setWidth 32 <<< 24 ||| (P (4 * i + 1)).setWidth 32 <<< 16 ||| (P (4 * i + 2)).setWidth 32 <<< 8 ||| (P (4 * i + 3)).setWidth 32
def sig0 (x : BitVec 32) : BitVec 32 := ror x 7 ^^^ ror x 18 ^^^ x >>> 3
def sig1 (y : BitVec 32) : BitVec 32 := ror y 17 ^^^ ror y 19 ^^^ y >>> 10
/-- The schedule's array, k words behind the first sixteen. -/
def wS (P : Nat → BitVec 8) : Nat → Nat → BitVec 32
  | 0, i => if i < 16 then w0 P i else 0#32
  | k + 1, i => if i = 16 + k then wS P k k + sig0 (wS P k (k + 1)) + wS P k (k + 9) + sig1 (wS P k (k + 14)) else wS P k i
def one (v : Nat → BitVec 32) (kw w : BitVec 32) : BitVec 32 :=
  v 7 + (ror (v 4) 6 ^^^ ror (v 4) 11 ^^^ ror (v 4) 25) + ((v 4 &&& v 5) ^^^ (~~~(v 4) &&& v 6)) + kw + w
def two (v : Nat → BitVec 32) : BitVec 32 :=
  (ror (v 0) 2 ^^^ ror (v 0) 13 ^^^ ror (v 0) 22) + ((v 0 &&& v 1) ^^^ (v 0 &&& v 2) ^^^ (v 1 &&& v 2))
def next (v : Nat → BitVec 32) (kw w : BitVec 32) : Nat → BitVec 32
  | 0 => one v kw w + two v
  | 4 => v 3 + one v kw w
  | i + 1 => v i
/-- k rounds. -/
def vR (W : Nat → BitVec 32) (v : Nat → BitVec 32) : Nat → Nat → BitVec 32
  | 0 => v
  | k + 1 => next (vR W v k) (steps k) (W k)
def compress (V : Nat → BitVec 32) (P : Nat → BitVec 8) (i : Nat) : BitVec 32 := V i + vR (wS P 48) V 64 i
end Sha
end Go.Proofs.Ytndlhhhebijknaa
