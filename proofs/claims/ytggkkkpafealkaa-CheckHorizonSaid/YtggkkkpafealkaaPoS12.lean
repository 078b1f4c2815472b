/- What the checker computes, in plain words: days. -/
import Derived.Test.YtggkkkpafealkaaPoS11
namespace Po
open Go Go.Ab
def dgood (x : Dt) : Bool := good x.y x.m x.d
/-- the days of the months ahead -/
def msum (y : Int) : Nat → Int | 0 => 0 | k + 1 => msum y k + days y (k + 1)
def dnum0 (x : Dt) : Int := 365 * (x.y - 1) + (x.y - 1).tdiv 4 - (x.y - 1).tdiv 100 + (x.y - 1).tdiv 400 + x.d - 1
def dnum (x : Dt) : Int := if dgood x then dnum0 x + msum x.y (x.m - 1).toNat else 0
theorem good_iff {y m d : Int} : good y m d = true ↔ 1 ≤ y ∧ y ≤ 9999 ∧ 1 ≤ m ∧ m ≤ 12 ∧ 1 ≤ d ∧ d ≤ days y m := by
  unfold good; simp only [Bool.and_eq_true, decide_eq_true_eq, ge_iff_le]
  constructor
  · rintro ⟨⟨⟨⟨⟨a, b⟩, c⟩, d⟩, e⟩, f⟩; exact ⟨a, b, c, d, e, f⟩
  · rintro ⟨a, b, c, d, e, f⟩; exact ⟨⟨⟨⟨⟨a, b⟩, c⟩, d⟩, e⟩, f⟩
theorem msum_range (y : Int) : ∀ k : Nat, 0 ≤ msum y k ∧ msum y k ≤ 31 * k
  | 0 => by simp [msum]
  | k + 1 => by have h1 := msum_range y k; have h2 := days_range y (k + 1); unfold msum; omega
theorem tdivs {n : Int} (h : 0 ≤ n) (h2 : n ≤ 9998) : 0 ≤ n.tdiv 4 ∧ n.tdiv 4 ≤ 2500 ∧ 0 ≤ n.tdiv 100 ∧ n.tdiv 100 ≤ 100 ∧ 0 ≤ n.tdiv 400 ∧ n.tdiv 400 ≤ 25 := by
  rw [Int.tdiv_eq_ediv_of_nonneg h, Int.tdiv_eq_ediv_of_nonneg h, Int.tdiv_eq_ediv_of_nonneg h]; omega
theorem leap2 (y : Int) : (y.tmod 4 == 0 && (y.tmod 100 != 0 || y.tmod 400 == 0)) = leap y := by
  unfold leap
  have h4 : y.tmod 400 = 0 → y.tmod 4 = 0 := fun h => by
    have e := Int.mul_tdiv_add_tmod y 400
    have e2 := Int.mul_tdiv_add_tmod y 4
    have e3 := Int.dvd_of_tmod_eq_zero h
    exact Int.tmod_eq_zero_of_dvd (Int.dvd_trans (by decide) e3)
  cases h1 : (y.tmod 400 == 0) with
  | true => rw [beq_iff_eq] at h1; rw [h4 h1]; simp
  | false => cases h2 : (y.tmod 100 == 0) <;> simp [bne, h2]
theorem good2 (x : Dt) : (decide (x.y ≥ 1) && decide (x.y ≤ 9999) && decide (x.d ≥ 1) && decide (x.d ≤ days x.y x.m)) = dgood x := by
  rw [Bool.eq_iff_iff, dgood, good_iff]
  simp only [Bool.and_eq_true, decide_eq_true_eq, ge_iff_le]
  constructor
  · rintro ⟨⟨⟨a, b⟩, c⟩, d⟩
    by_cases h : x.m < 1 ∨ 12 < x.m
    · have e : days x.y x.m = 0 := by rw [days, if_pos (by simpa using h)]
      omega
    · exact ⟨a, b, by omega, by omega, c, d⟩
  · rintro ⟨a, b, c, d, e, f⟩; exact ⟨⟨⟨a, b⟩, e⟩, f⟩
def dnum0w (x : Dt) : Int := J (J (J (J (J (J (365 * J (x.y - 1)) + J ((J (x.y - 1)).tdiv 4)) - J ((J (x.y - 1)).tdiv 100)) + J ((J (x.y - 1)).tdiv 400)) + x.d) - 1)
theorem dnum0w_eq {x : Dt} (h : dgood x = true) : dnum0w x = dnum0 x ∧ 0 ≤ dnum0 x ∧ dnum0 x ≤ 4000000 := by
  obtain ⟨h1, h2, h3, h4, h5, h6⟩ := good_iff.1 h
  have hd := days_range x.y x.m
  obtain ⟨t1, t2, t3, t4, t5, t6⟩ := tdivs (n := x.y - 1) (by omega) (by omega)
  unfold dnum0w dnum0 J
  rw [w64 (x := x.y - 1) (by omega) (by omega), w64 (x := 365 * (x.y - 1)) (by omega) (by omega), w64 (x := (x.y - 1).tdiv 4) (by omega) (by omega), w64 (x := (x.y - 1).tdiv 100) (by omega) (by omega), w64 (x := (x.y - 1).tdiv 400) (by omega) (by omega)]
  have e : (x.y - 1).tdiv 100 ≤ (x.y - 1).tdiv 4 := by
    rw [Int.tdiv_eq_ediv_of_nonneg (by omega), Int.tdiv_eq_ediv_of_nonneg (by omega)]; omega
  refine ⟨?_, by omega, by omega⟩
  generalize (x.y - 1).tdiv 4 = a at *
  generalize (x.y - 1).tdiv 100 = b at *
  generalize (x.y - 1).tdiv 400 = c at *
  rw [w64 (x := 365 * (x.y - 1) + a) (by omega) (by omega), w64 (x := 365 * (x.y - 1) + a - b) (by omega) (by omega), w64 (x := 365 * (x.y - 1) + a - b + c) (by omega) (by omega), w64 (x := 365 * (x.y - 1) + a - b + c + x.d) (by omega) (by omega), w64 (by omega) (by omega)]
end Po
