/- What the checker computes, in plain words: a horizon. -/
import Derived.Test.YtggkkkpafealkaaPoS12
namespace Po
open Go Go.Ab
def spanOk (a b : Dt) : Bool := (dgood a && dgood b) && decide (dnum a ≤ dnum b)
def hErr (p : Pl) : Int := match !spanOk p.f p.t with | true => 5 | false => (match decide (dnum p.t - dnum p.f ≥ 4000) with | true => 6 | false => 0)
theorem dnum_range (x : Dt) : 0 ≤ dnum x ∧ dnum x ≤ 5000000 := by
  unfold dnum; split
  · rename_i h
    have h1 := dnum0w_eq h
    obtain ⟨_, _, _, h4, _, _⟩ := good_iff.1 h
    have h2 := msum_range x.y (x.m - 1).toNat
    omega
  · omega
def b1 : Bs := [112, 108, 97, 110, 32, 112, 32, 99, 117, 114, 114, 101, 110, 99, 121, 32, 69, 85, 82, 59, 32, 104, 111, 114, 105, 122, 111, 110, 32, 50, 48, 50, 52, 45, 48, 49, 45, 48, 49, 32, 50, 48, 50, 52, 45, 49, 50, 45, 51, 49, 59]
def b2 : Bs := [10, 99, 104, 97, 114, 103, 101, 32, 109, 32, 123, 32, 103, 114, 97, 100, 117, 97, 116, 101, 100, 32, 123, 32, 114, 101, 115, 116, 32, 114, 97, 116, 101, 32, 49, 59, 32, 125, 32, 114, 111, 117, 110, 100, 32, 102, 108, 111, 111, 114, 59, 32, 125]
def b3 : Bs := [32, 109, 101, 116, 101, 114, 32, 109, 32, 117, 110, 105, 116, 32, 108, 32, 109, 97, 120, 32, 57, 59, 32, 102, 101, 101, 32, 53, 59]
/-- the two texts of the laws' first sentence -/
def txt1 : Bs := b1 ++ b2
def txt2 : Bs := b1 ++ (b3 ++ b2)
def chq : Ch := ⟨[109], Wn.z, 0, 1, 1, [⟨0, 1000000⟩], 0, [], 2, 1⟩
def pl1 : Pl := ⟨[112], [69, 85, 82], ⟨2024, 1, 1⟩, ⟨2024, 12, 31⟩, [], [], [chq], 1, 1⟩
def pl2 : Pl := ⟨[112], [69, 85, 82], ⟨2024, 1, 1⟩, ⟨2024, 12, 31⟩, [⟨[109], [108], 9, 1, 53⟩], [⟨5, Wn.z, 1, 75⟩], [chq], 1, 1⟩
def ofOk (s : Bs) : Bool := (parse s).err == 0 && decide ((s.length : Int) ≤ 8192)
end Po
