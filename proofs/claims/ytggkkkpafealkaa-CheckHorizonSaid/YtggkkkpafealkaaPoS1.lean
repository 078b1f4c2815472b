/- What the document's functions compute, in plain words: dates. -/
import Derived.Test.YtggkkkpafealkaaPoW1
namespace Po
open Go
def leap (y : Int) : Bool := y.tmod 400 == 0 || (!(y.tmod 100 == 0) && y.tmod 4 == 0)
def mdays : Nat → Int | 0 => 31 | 1 => 28 | 2 => 31 | 3 => 30 | 4 => 31 | 5 => 30 | 6 => 31 | 7 => 31 | 8 => 30 | 9 => 31 | 10 => 30 | _ => 31
def days (y m : Int) : Int := if m < 1 || m > 12 then 0 else if m == 2 && leap y then 29 else mdays (m - 1).toNat
def good (y m d : Int) : Bool := decide (y ≥ 1) && decide (y ≤ 9999) && decide (m ≥ 1) && decide (m ≤ 12) && decide (d ≥ 1) && decide (d ≤ days y m)
def dig (n : Int) : UInt8 := UInt8.ofNat (IntKind.u8.wrap (IntKind.i64.wrap (48 + n.tmod 10))).toNat
def digs : Nat → Int → Bs → Bs | 0, _, s => s | k + 1, n, s => digs k (IntKind.i64.wrap (n.tdiv 10)) (dig n :: s)
theorem digs_length : ∀ (k : Nat) (n : Int) (s : Bs), (digs k n s).length = k + s.length
  | 0, _, _ => by simp [digs]
  | k + 1, n, s => by rw [digs, digs_length k]; simp; omega
def dtext (y m d : Int) : Bs := if good y m d then digs 4 y [] ++ (45 :: digs 2 m []) ++ (45 :: digs 2 d []) else []
theorem days_range (y m : Int) : 0 ≤ days y m ∧ days y m ≤ 31 := by
  unfold days; split
  · omega
  · split
    · omega
    · unfold mdays; split <;> omega
end Po
