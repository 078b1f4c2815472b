/- The checker's days: step by step. -/
import Derived.Test.YtggkkkpafealkaaPoS12
import Derived.Test.YtggkkkpafealkaaPoC11
import Derived.Test.YtggkkkpafealkaaProg
open Go Go.Ab Go.Proofs
namespace Po
theorem dleap_runs (y : Int) : Runs Try.prog 83 [i64 y] [] (bo (leap y)) [] := by
  refine r_fn (fn := Try.f83) rfl rfl (by kernel_rfl) ?_
  refine g_imps (by kernel_rfl) ?_
  refine g_done (by kernel_rfl) ?_
  exact (show _ = some (A.d (D.bool (y.tmod 4 == 0 && (y.tmod 100 != 0 || y.tmod 400 == 0))), []) from by kernel_rfl).trans (by rw [← leap2 y])
theorem ddays_other (y m : Int) (h : m < 1 ∨ 12 < m) : Runs Try.prog 72 [i64 y, i64 m] [] (i64 0) [] := by
  refine r_fn (fn := Try.f72) rfl rfl (by kernel_rfl) ?_
  refine g_cbr (b := m == 2) (by kernel_rfl) (fun q => absurd q (by simp; omega)) (fun _ => ?_)
  refine g_cbr (b := m == 4) (by kernel_rfl) (fun q => absurd q (by simp; omega)) (fun _ => ?_)
  refine g_cbr (b := m == 6) (by kernel_rfl) (fun q => absurd q (by simp; omega)) (fun _ => ?_)
  refine g_cbr (b := m == 9) (by kernel_rfl) (fun q => absurd q (by simp; omega)) (fun _ => ?_)
  refine g_cbr (b := m == 11) (by kernel_rfl) (fun q => absurd q (by simp; omega)) (fun _ => ?_)
  refine g_cbr (b := m == 1) (by kernel_rfl) (fun q => absurd q (by simp; omega)) (fun _ => ?_)
  refine g_cbr (b := m == 3) (by kernel_rfl) (fun q => absurd q (by simp; omega)) (fun _ => ?_)
  refine g_cbr (b := m == 5) (by kernel_rfl) (fun q => absurd q (by simp; omega)) (fun _ => ?_)
  refine g_cbr (b := m == 7) (by kernel_rfl) (fun q => absurd q (by simp; omega)) (fun _ => ?_)
  refine g_cbr (b := m == 8) (by kernel_rfl) (fun q => absurd q (by simp; omega)) (fun _ => ?_)
  refine g_cbr (b := m == 10) (by kernel_rfl) (fun q => absurd q (by simp; omega)) (fun _ => ?_)
  refine g_cbr (b := m == 12) (by kernel_rfl) (fun q => absurd q (by simp; omega)) (fun _ => ?_)
  exact g_done (by kernel_rfl) (by kernel_rfl)
theorem ddays_feb (y : Int) : Runs Try.prog 72 [i64 y, i64 2] [] (i64 (days y 2)) [] := by
  refine r_fn (fn := Try.f72) rfl rfl (by kernel_rfl) ?_
  refine g_cbr (b := (2 : Int) == 2) (by kernel_rfl) (fun _ => ?_) (fun q => absurd q (by decide))
  refine g_call (by kernel_rfl) (dleap_runs y) ?_
  refine g_cbr (b := leap y) (by kernel_rfl) (fun q => ?_) (fun q => ?_)
  · refine g_done (by kernel_rfl) ?_
    exact (show _ = some (A.d (D.int IntKind.i64 29), []) from by kernel_rfl).trans (by rw [days, q]; rfl)
  · refine g_done (by kernel_rfl) ?_
    exact (show _ = some (A.d (D.int IntKind.i64 28), []) from by kernel_rfl).trans (by rw [days, q]; rfl)
theorem ddays_runs (y m : Int) : Runs Try.prog 72 [i64 y, i64 m] [] (i64 (days y m)) [] := by
  by_cases h : m < 1 ∨ 12 < m
  · rw [show days y m = 0 by rw [days, if_pos (by simpa using h)]]
    exact ddays_other y m h
  · have h1 : 1 ≤ m := by omega
    have h2 : m ≤ 12 := by omega
    obtain rfl | rfl | rfl | rfl | rfl | rfl | rfl | rfl | rfl | rfl | rfl | rfl : m = 1 ∨ m = 2 ∨ m = 3 ∨ m = 4 ∨ m = 5 ∨ m = 6 ∨ m = 7 ∨ m = 8 ∨ m = 9 ∨ m = 10 ∨ m = 11 ∨ m = 12 := by omega
    · exact evF_runs (n := 100) (by kernel_rfl)
    · exact ddays_feb y
    · exact evF_runs (n := 100) (by kernel_rfl)
    · exact evF_runs (n := 100) (by kernel_rfl)
    · exact evF_runs (n := 100) (by kernel_rfl)
    · exact evF_runs (n := 100) (by kernel_rfl)
    · exact evF_runs (n := 100) (by kernel_rfl)
    · exact evF_runs (n := 100) (by kernel_rfl)
    · exact evF_runs (n := 100) (by kernel_rfl)
    · exact evF_runs (n := 100) (by kernel_rfl)
    · exact evF_runs (n := 100) (by kernel_rfl)
    · exact evF_runs (n := 100) (by kernel_rfl)
theorem dgood_runs (x : Dt) : Runs Try.prog 71 [x.a] [] (bo (dgood x)) [] := by
  refine r_fn (fn := Try.f71) rfl rfl (by kernel_rfl) ?_
  refine g_callG (gs := [decide (x.y ≥ 1) && decide (x.y ≤ 9999) && decide (x.d ≥ 1)]) (by kernel_rfl) (fun hg => (Po.ddays_runs (x.y) (x.m))) ?_
  refine g_imps (by kernel_rfl) ?_
  refine g_done (by kernel_rfl) ?_
  exact (show _ = some (A.d (D.bool (decide (x.y ≥ 1) && decide (x.y ≤ 9999) && decide (x.d ≥ 1) && decide (x.d ≤ days x.y x.m))), []) from by kernel_rfl).trans (by rw [good2 x])
structure DnL where (n m : Int)
theorem dnum_runs (x : Dt) : Runs Try.prog 54 [x.a] [] (.tup [.d (.int .i64 (dnum x)), .d (.bool (dgood x))]) [] := by
  refine r_fn (fn := Try.f54) rfl rfl (by kernel_rfl) ?_
  refine g_call (by kernel_rfl) (dgood_runs x) ?_
  refine g_cbr (b := !dgood x) (by kernel_rfl) (fun q => ?_) (fun q => ?_)
  · refine g_done (by kernel_rfl) ?_
    exact (show _ = some (A.tup [V.d (D.int IntKind.i64 0), V.d (D.bool false)], []) from by kernel_rfl).trans (by rw [Bool.not_eq_true'] at q; rw [dnum, q]; rfl)
  rw [Bool.not_eq_false'] at q
  obtain ⟨h1, h2, h3, h4, h5, h6⟩ := good_iff.1 q
  obtain ⟨e0, e1, e2⟩ := dnum0w_eq q
  refine g_lp (by kernel_rfl) (fun z : DnL => mkSt 41 [(1, .ptr 1 0), (5, i64 z.n), (6, i64 z.m)] [(1, .box [i64 x.y, i64 x.m, i64 x.d])]) (fun z => 1 ≤ z.m ∧ z.m ≤ x.m ∧ z.n = dnum0 x + msum x.y (z.m - 1).toNat) (fun z => (x.m - z.m).toNat) ⟨dnum0w x, 1⟩ (le_mk (by kernel_rfl)) ⟨by simp, by simp; omega, by simp only [e0]; simp [msum]⟩ ?_
  rintro ⟨n, m⟩ ⟨hm1, hm2, hn⟩
  simp only [] at hm1 hm2 hn
  have hs := msum_range x.y (m - 1).toNat
  have hd := days_range x.y m
  refine g_cbr (b := decide (m < x.m)) (by kernel_rfl) (fun q1 => ?_) (fun q1 => ?_)
  · refine g_call (by kernel_rfl) (Po.ddays_runs (x.y) (m)) ?_
    refine g_done (by kernel_rfl) ?_
    exact g_again (by kernel_rfl) ({ n := IntKind.i64.wrap (n + days x.y m), m := IntKind.i64.wrap (m + 1) : DnL }) (by simp at q1; simp only []; rw [w64 (by omega) (by omega), w64 (by omega) (by omega)]; refine ⟨by omega, by omega, ?_⟩; rw [show (m + 1 - 1).toNat = (m - 1).toNat + 1 by omega, msum, show (((m - 1).toNat : Nat) : Int) + 1 = m by omega]; omega) (by simp at q1; simp only []; rw [w64 (by omega) (by omega)]; omega) (le_mk (by kernel_rfl))
  · refine g_done (by kernel_rfl) ?_
    refine g_leave (by kernel_rfl) ?_
    refine g_done (by kernel_rfl) ?_
    exact (show _ = some (A.tup [V.d (D.int IntKind.i64 n), V.d (D.bool true)], []) from by kernel_rfl).trans (by simp at q1; rw [dnum, if_pos q, q, hn, show m = x.m by omega])
end Po
