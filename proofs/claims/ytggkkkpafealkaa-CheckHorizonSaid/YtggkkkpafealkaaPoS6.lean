/- What the document's functions compute, in plain words: numbers of 128 bits. -/
import Derived.Test.YtggkkkpafealkaaPoS5
namespace Po
open Go Go.Ab
structure Wd where (neg : Bool) (hi lo : Int)
def Wd.cs (x : Wd) : List D := [.bool x.neg, .int .u64 x.hi, .int .u64 x.lo]
abbrev Wd.a (x : Wd) : A := .agg x.cs
def U (n : Int) : Int := IntKind.u64.wrap n
def J (n : Int) : Int := IntKind.i64.wrap n
def wOf (a : Int) : Wd := if a < 0 then ⟨true, 0, U (U (J (0 - J (a + 1))) + 1)⟩ else ⟨false, 0, U a⟩
def wZero (x : Wd) : Bool := x.hi == 0 && x.lo == 0
def wSize (x y : Wd) : Bool := decide (x.hi < y.hi) || x.hi == y.hi && decide (x.lo < y.lo)
def wPlus (x y : Wd) : Wd := ⟨false, if U (x.lo + y.lo) < x.lo then U (U (x.hi + y.hi) + 1) else U (x.hi + y.hi), U (x.lo + y.lo)⟩
def wMinus (x y : Wd) : Wd := ⟨false, if x.lo < y.lo then U (U (x.hi - y.hi) - 1) else U (x.hi - y.hi), U (x.lo - y.lo)⟩
def wInt (x : Wd) : Int × Bool :=
  if x.hi != 0 then (0, false) else
  if x.neg then (if x.lo > 9223372036854775808 then (0, false) else if x.lo == 0 then (0, true) else (J (J (0 - J (U (x.lo - 1))) - 1), true))
  else if x.lo ≥ 9223372036854775808 then (0, false) else (J x.lo, true)
def wAdd (x y : Wd) : Wd :=
  if x.neg == y.neg then { wPlus x y with neg := x.neg && !wZero (wPlus x y) }
  else if wSize x y then { wMinus y x with neg := y.neg && !wZero (wMinus y x) }
  else { wMinus x y with neg := x.neg && !wZero (wMinus x y) }
def wOpp (x : Wd) : Wd := if wZero x then x else { x with neg := !x.neg }
def lo32 (n : Int) : Int := n.tmod 4294967296
def hi32 (n : Int) : Int := n.fdiv 4294967296
def wMul (a b : Int) : Wd :=
  let x := wOf a; let y := wOf b
  let m1 := U (lo32 x.lo * hi32 y.lo); let m2 := U (hi32 x.lo * lo32 y.lo)
  let o := wPlus (wPlus ⟨false, U (hi32 x.lo * hi32 y.lo), U (lo32 x.lo * lo32 y.lo)⟩ ⟨false, hi32 m1, U (m1 * 4294967296)⟩) ⟨false, hi32 m2, U (m2 * 4294967296)⟩
  { o with neg := x.neg != y.neg && !wZero o }
end Po
