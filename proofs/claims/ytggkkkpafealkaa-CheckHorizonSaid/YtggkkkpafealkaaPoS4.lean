/- What the document's functions compute, in plain words: of what kind letters are; a text's tokens. -/
import Derived.Test.YtggkkkpafealkaaPoS3
namespace Po
open Go Go.Ab
def kGo : Bs → Bool → Option Bool
  | [], p => some p
  | c :: r, p => if !letter c.toNat then none else kGo r (p && (c.toNat : Int) != 46 && (c.toNat : Int) != 45)
def kof (l : Bs) : Int :=
  if l == [123] || l == [125] || l == [59] then 5 else if l == [] then 0 else
  match kGo l true with
  | none => 0
  | some p =>
    if words.any (· == l) then 2 else
    if p && (decide (at_ l 0 < 48) || decide (at_ l 0 > 57)) then 1 else
    if nof l > 0 then 3 else if (dparse l).isSome then 4 else 0
theorem kGo_at {l : Bs} {i : Int} {p : Bool} (h0 : 0 ≤ i) (h : i < l.length) : kGo (l.drop i.toNat) p =
    if !letter (at_ l i) then none else kGo (l.drop (i + 1).toNat) (p && at_ l i != 46 && at_ l i != 45) := by
  obtain ⟨c, r, e1, e2, e3⟩ := at_drop h0 h
  rw [e1, kGo, e2, e3]
theorem any_at {ws : List Bs} {l : Bs} {i : Int} (h0 : 0 ≤ i) (h : i < ws.length) : (ws.drop i.toNat).any (· == l) = (ws.getD i.toNat [] == l || (ws.drop (i + 1).toNat).any (· == l)) := by
  have h : i.toNat < ws.length := by omega
  rw [List.drop_eq_getElem_cons h, show (i + 1).toNat = i.toNat + 1 by omega, List.any_cons]; simp [h]
end Po
