/- What the document's functions compute, in plain words: days of a number, days of a text. -/
import Derived.Test.YtggkkkpafealkaaPoS1
namespace Po
open Go Go.Ab
structure Dt where (y m d : Int)
  deriving DecidableEq
def Dt.cs (x : Dt) : List D := [.int .i64 x.y, .int .i64 x.m, .int .i64 x.d]
abbrev Dt.a (x : Dt) : A := .agg x.cs
def Dt.z : Dt := ⟨0, 0, 0⟩
/-- a day, or none, as a function answers it -/
def dv (o : Option Dt) : Dt := match o with | some x => x | none => Dt.z
def dres (o : Option Dt) : A := .tup [.agg (dv o).cs, .d (.bool o.isSome)]
def ylen (y : Int) : Int := if leap y then 366 else 365
def ofM (y : Int) : Nat → Int → Int → Sum Dt Int
  | 0, _, n => .inr n
  | k + 1, m, n => if n < days y m then .inl ⟨y, m, n + 1⟩ else ofM y k (m + 1) (n - days y m)
def ofY : Nat → Int → Int → Option Dt
  | 0, _, _ => none
  | k + 1, y, n => if n ≥ ylen y then ofY k (y + 1) (n - ylen y) else match ofM y 12 1 n with | .inl x => some x | .inr n => ofY k (y + 1) n
def of03 (n : Int) : Option Dt := if n < 0 || n > 4000000 then none else ofY 9999 1 n
/-- the days of a text: byte by byte -/
def dpGo : Nat → Nat → Int → Bs → Option Int
  | 0, _, n, _ => some n
  | k + 1, i, n, l =>
    let c : Int := ((l.getD i 0).toNat : Int)
    if i == 4 || i == 7 then (if c != 45 then none else dpGo k (i + 1) n l)
    else if c < 48 || c > 57 then none else dpGo k (i + 1) (10 * n + (c - 48)) l
def dparse (l : Bs) : Option Dt :=
  if (l.length : Int) != 10 then none else
  match dpGo 10 0 0 l with
  | none => none
  | some n => let x : Dt := ⟨n.tdiv 10000, (n.tdiv 100).tmod 100, n.tmod 100⟩
    if good x.y x.m x.d then some x else none
end Po
