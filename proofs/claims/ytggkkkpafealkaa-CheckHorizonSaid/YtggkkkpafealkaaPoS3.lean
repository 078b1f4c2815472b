/- What the document's functions compute, in plain words: letters and tokens. -/
import Derived.Test.YtggkkkpafealkaaPoS2
namespace Po
open Go Go.Ab
def letter (c : Int) : Bool := c == 95 || c == 46 || c == 45 || decide (c ≥ 48) && decide (c ≤ 57) || decide (c ≥ 97) && decide (c ≤ 122) || decide (c ≥ 65) && decide (c ≤ 90)
def digit (c : Int) : Bool := decide (c ≥ 48) && decide (c ≤ 57)
def words : List Bs := [
  [112, 108, 97, 110], [99, 117, 114, 114, 101, 110, 99, 121], [104, 111, 114, 105, 122, 111, 110], [109, 101, 116, 101, 114], [117, 110, 105, 116], [109, 97, 120], [102, 101, 101],
  [99, 104, 97, 114, 103, 101], [102, 114, 111, 109], [116, 111], [97, 108, 108, 111, 119, 97, 110, 99, 101], [98, 108, 111, 99, 107], [103, 114, 97, 100, 117, 97, 116, 101, 100],
  [118, 111, 108, 117, 109, 101], [117, 112, 116, 111], [114, 97, 116, 101], [114, 101, 115, 116], [114, 111, 117, 110, 100], [102, 108, 111, 111, 114], [99, 101, 105, 108],
  [104, 97, 108, 102, 117, 112], [104, 97, 108, 102, 101, 118, 101, 110], [112, 101, 114, 99, 101, 110, 116], [99, 97, 112], [109, 105, 110, 105, 109, 117, 109], [97, 100, 100]]
/-- a number's form: none: odd; how many points -/
def nofGo : Bs → Int → Option Int
  | [], p => some p
  | c :: r, p => if (c.toNat : Int) == 46 then (if p + 1 > 1 || r.isEmpty then none else nofGo r (p + 1)) else if !digit c.toNat then none else nofGo r p
def nof (l : Bs) : Int :=
  if l == [] || !digit (at_ l 0) then 0 else
  match nofGo l 0 with
  | none => 0
  | some p => if at_ l 0 == 48 && decide ((l.length : Int) > 1) && at_ l 1 != 46 then 0 else 1 + p
theorem at_drop {l : Bs} {i : Int} (h0 : 0 ≤ i) (h : i < l.length) : ∃ c r, l.drop i.toNat = c :: r ∧ l.drop (i + 1).toNat = r ∧ at_ l i = (c.toNat : Int) :=
  ⟨_, _, drop_at h0 h, by rw [show (i + 1).toNat = i.toNat + 1 by omega], rfl⟩
theorem at_range (l : Bs) (i : Int) : 0 ≤ at_ l i ∧ at_ l i ≤ 255 := by
  unfold at_; have := (l.getD i.toNat 0).toNat_lt; omega
theorem ne_len {l : Bs} (h : l ≠ []) : 0 < l.length := by cases l with | nil => exact absurd rfl h | cons => simp
theorem nofGo_at {l : Bs} {i p : Int} (h0 : 0 ≤ i) (h : i < l.length) : nofGo (l.drop i.toNat) p =
    if at_ l i == 46 then (if p + 1 > 1 || i == (l.length : Int) - 1 then none else nofGo (l.drop (i + 1).toNat) (p + 1)) else if !digit (at_ l i) then none else nofGo (l.drop (i + 1).toNat) p := by
  obtain ⟨c, r, e1, e2, e3⟩ := at_drop h0 h
  have : r.isEmpty = (i == (l.length : Int) - 1) := by
    have e4 : r.length = l.length - (i + 1).toNat := by rw [← e2, List.length_drop]
    rw [Bool.eq_iff_iff, List.isEmpty_iff, ← List.length_eq_zero_iff, beq_iff_eq]; omega
  rw [e1, nofGo, e2, e3, this]
end Po
