/- What the document's functions compute, in plain words: numbers of texts. -/
import Derived.Test.YtggkkkpafealkaaPoS6
namespace Po
open Go Go.Ab
def more (n d : Int) (ok : Bool) : Int × Bool := if !ok || !(wInt (wAdd (wMul n 10) (wOf d))).2 then (0, false) else ((wInt (wAdd (wMul n 10) (wOf d))).1, true)
def npGo : Bs → Int → Int × Bool → Int × (Int × Bool)
  | [], b, r => (b, r)
  | c :: t, b, r => if (c.toNat : Int) == 46 then npGo t 0 r else npGo t (if b ≥ 0 then b + 1 else b) (more r.1 (J (IntKind.u8.wrap (c.toNat - 48))) r.2)
def npPad : Nat → Int × Bool → Int × Bool | 0, r => r | k + 1, r => npPad k (more r.1 0 r.2)
/-- a number's parsing: the number, and the verdict -/
def nparse (l : Bs) (places most : Int) : Int × Int :=
  if nof l == 0 || decide (places < 0) || decide (places > 9) then (0, 1) else
  let r := npGo l (-1) (0, true)
  if r.1 > places then (0, 1) else
  let x := npPad (places - (if (0 : Int) > r.1 then 0 else r.1)).toNat r.2
  if !x.2 || decide (x.1 > most) then (0, 2) else (x.1, 0)
theorem npGo_at {l : Bs} {i b : Int} {r : Int × Bool} (h0 : 0 ≤ i) (h : i < l.length) : npGo (l.drop i.toNat) b r =
    if at_ l i == 46 then npGo (l.drop (i + 1).toNat) 0 r else npGo (l.drop (i + 1).toNat) (if b ≥ 0 then b + 1 else b) (more r.1 (J (IntKind.u8.wrap (at_ l i - 48))) r.2) := by
  obtain ⟨c, r, e1, e2, e3⟩ := at_drop h0 h
  rw [e1, npGo, e2, e3]
end Po
