/- The plain law of a number's day: it is that number's. -/
import Derived.Test.YtggkkkpafealkaaPoS15
namespace Po
open Go Go.Ab
/-- the days of the years ahead -/
def ysum (y : Int) : Int := 365 * (y - 1) + (y - 1) / 4 - (y - 1) / 100 + (y - 1) / 400
theorem leap_iff {y : Int} (h : 0 ≤ y) : leap y = true ↔ y % 400 = 0 ∨ (y % 100 ≠ 0 ∧ y % 4 = 0) := by
  unfold leap
  rw [Int.tmod_eq_emod_of_nonneg h, Int.tmod_eq_emod_of_nonneg h, Int.tmod_eq_emod_of_nonneg h]
  simp
theorem ysum_succ {y : Int} (h : 1 ≤ y) : ysum (y + 1) = ysum y + ylen y := by
  have hl := leap_iff (y := y) (by omega)
  have a1 : y % 4 = 0 → y / 4 = (y - 1) / 4 + 1 := fun h => by omega
  have a2 : y % 4 ≠ 0 → y / 4 = (y - 1) / 4 := fun h => by omega
  have b1 : y % 100 = 0 → y / 100 = (y - 1) / 100 + 1 := fun h => by omega
  have b2 : y % 100 ≠ 0 → y / 100 = (y - 1) / 100 := fun h => by omega
  have c1 : y % 400 = 0 → y / 400 = (y - 1) / 400 + 1 := fun h => by omega
  have c2 : y % 400 ≠ 0 → y / 400 = (y - 1) / 400 := fun h => by omega
  have i1 : y % 400 = 0 → y % 100 = 0 := fun h => by omega
  have i2 : y % 100 = 0 → y % 4 = 0 := fun h => by omega
  unfold ysum ylen
  rw [show y + 1 - 1 = y by omega]
  by_cases h4 : y % 4 = 0
  · have r1 := a1 h4
    by_cases h100 : y % 100 = 0
    · have r2 := b1 h100
      by_cases h400 : y % 400 = 0
      · have r3 := c1 h400
        rw [if_pos (hl.2 (.inl h400))]; omega
      · have r3 := c2 h400
        rw [if_neg (fun q => by rcases hl.1 q with q | q; exact h400 q; exact q.1 h100)]; omega
    · have r2 := b2 h100
      have r3 := c2 (fun q => h100 (i1 q))
      rw [if_pos (hl.2 (.inr ⟨h100, h4⟩))]; omega
  · have r1 := a2 h4
    have r2 := b2 (fun q => h4 (i2 q))
    have r3 := c2 (fun q => h4 (i2 (i1 q)))
    rw [if_neg (fun q => by rcases hl.1 q with q | q; exact h4 (i2 (i1 q)); exact h4 q.2)]; omega
theorem msum12 (y : Int) : msum y 12 = ylen y := by
  unfold ylen
  cases h : leap y <;> simp [msum, days, mdays, h]
theorem ofM_ok {y : Int} : ∀ (k : Nat) (m n : Int), 1 ≤ m → m + k = 13 → 0 ≤ n → msum y (m - 1).toNat + n < ylen y →
    ∃ m' d, ofM y k m n = .inl ⟨y, m', d⟩ ∧ 1 ≤ m' ∧ m' ≤ 12 ∧ 1 ≤ d ∧ d ≤ days y m' ∧ msum y (m' - 1).toNat + d - 1 = msum y (m - 1).toNat + n
  | 0, m, n, h1, h2, h3, h4 => by
    have e : m = 13 := by omega
    subst e
    have := msum12 y
    rw [show ((13 : Int) - 1).toNat = 12 from rfl] at h4
    omega
  | k + 1, m, n, h1, h2, h3, h4 => by
    unfold ofM
    split
    · exact ⟨m, n + 1, rfl, h1, by omega, by omega, by omega, by omega⟩
    · have e : msum y (m + 1 - 1).toNat = msum y (m - 1).toNat + days y m := by
        rw [show (m + 1 - 1).toNat = (m - 1).toNat + 1 by omega, msum, show (((m - 1).toNat : Nat) : Int) + 1 = m by omega]
      obtain ⟨m', d, a1, a2, a3, a4, a5, a6⟩ := ofM_ok (y := y) k (m + 1) (n - days y m) (by omega) (by omega) (by omega) (by omega)
      exact ⟨m', d, a1, a2, a3, a4, a5, by omega⟩
theorem ofY_ok : ∀ (k : Nat) (y n : Int), 1 ≤ y → y + k = 10000 → 0 ≤ n → ysum y + n ≤ 3652058 → ∃ d, ofY k y n = some d ∧ dgood d = true ∧ dnum d = ysum y + n
  | 0, y, n, h1, h2, h3, h4 => by
    have e : y = 10000 := by omega
    subst e; unfold ysum at h4; omega
  | k + 1, y, n, h1, h2, h3, h4 => by
    unfold ofY
    split
    · obtain ⟨d, a1, a2, a3⟩ := ofY_ok k (y + 1) (n - ylen y) (by omega) (by omega) (by omega) (by rw [ysum_succ h1]; omega)
      exact ⟨d, a1, a2, by rw [a3, ysum_succ h1]; omega⟩
    · rename_i h5
      obtain ⟨m, d, a1, a2, a3, a4, a5, a6⟩ := ofM_ok (y := y) 12 1 n (by omega) (by omega) h3 (by show msum y 0 + n < _; simp only [msum]; omega)
      rw [a1]
      have hg : dgood ⟨y, m, d⟩ = true := good_iff.2 ⟨h1, by show y ≤ 9999; omega, a2, a3, a4, a5⟩
      refine ⟨_, rfl, hg, ?_⟩
      rw [dnum, if_pos hg]
      have e0 : msum y ((1 : Int) - 1).toNat = 0 := rfl
      rw [e0] at a6
      unfold dnum0 ysum
      simp only
      rw [Int.tdiv_eq_ediv_of_nonneg (by omega), Int.tdiv_eq_ediv_of_nonneg (by omega), Int.tdiv_eq_ediv_of_nonneg (by omega)]
      omega
/-- the day of a number has that number -/
theorem of03_ok {a : Int} (h0 : 0 ≤ a) (h1 : a ≤ 3652058) : ∃ d, of03 a = some d ∧ dgood d = true ∧ dnum d = a := by
  obtain ⟨d, a1, a2, a3⟩ := ofY_ok 9999 1 a (by omega) (by omega) h0 (by unfold ysum; omega)
  refine ⟨d, ?_, a2, by rw [a3]; unfold ysum; omega⟩
  rw [of03, if_neg (by simp; omega)]; exact a1
end Po
