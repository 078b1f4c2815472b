/- Numbers of 128 bits: step by step. -/
import Derived.Test.YtggkkkpafealkaaPoS6
import Derived.Test.YtggkkkpafealkaaPoC5
import Derived.Test.YtggkkkpafealkaaProg
open Go Go.Ab Go.Proofs
namespace Po
theorem wof_runs (a : Int) : Runs Try.prog 58 [i64 a] [] (wOf a).a [] := by
  refine r_fn (fn := Try.f58) rfl rfl (by kernel_rfl) ?_
  refine g_cbr (b := decide (a < 0)) (by kernel_rfl) (fun q1 => ?_) (fun q1 => ?_)
  · refine g_done (by kernel_rfl) ?_
    exact (show _ = some (A.agg [D.bool true, D.int IntKind.u64 0, D.int IntKind.u64 (IntKind.u64.wrap (IntKind.u64.wrap (IntKind.i64.wrap (0 - IntKind.i64.wrap (a + 1))) + 1))], []) from by kernel_rfl).trans (by simp only [decide_eq_true_eq] at q1; rw [wOf, if_pos q1]; rfl)
  · refine g_done (by kernel_rfl) ?_
    exact (show _ = some (A.agg [D.bool false, D.int IntKind.u64 0, D.int IntKind.u64 (IntKind.u64.wrap a)], []) from by kernel_rfl).trans (by simp only [decide_eq_false_iff_not] at q1; rw [wOf, if_neg q1]; rfl)
theorem wzero_runs (x : Wd) : Runs Try.prog 78 [x.a] [] (bo (wZero x)) [] := by
  refine r_fn (fn := Try.f78) rfl rfl (by kernel_rfl) ?_
  refine g_imps (by kernel_rfl) ?_
  refine g_done (by kernel_rfl) ?_
  kernel_rfl
theorem wsize_runs (x y : Wd) : Runs Try.prog 79 [x.a, y.a] [] (bo (wSize x y)) [] := by
  refine r_fn (fn := Try.f79) rfl rfl (by kernel_rfl) ?_
  refine g_imps (by kernel_rfl) ?_
  refine g_done (by kernel_rfl) ?_
  kernel_rfl
theorem wplus_runs (x y : Wd) : Runs Try.prog 77 [x.a, y.a] [] (wPlus x y).a [] := by
  refine r_fn (fn := Try.f77) rfl rfl (by kernel_rfl) ?_
  refine g_cbr (b := decide (IntKind.u64.wrap (x.lo + y.lo) < x.lo)) (by kernel_rfl) (fun q1 => ?_) (fun q1 => ?_)
  · refine g_done (by kernel_rfl) ?_
    exact (show _ = some (A.agg [D.bool false, D.int IntKind.u64 (IntKind.u64.wrap (IntKind.u64.wrap (x.hi + y.hi) + 1)), D.int IntKind.u64 (IntKind.u64.wrap (x.lo + y.lo))], []) from by kernel_rfl).trans (by simp only [decide_eq_true_eq] at q1; rw [wPlus, if_pos (show U (x.lo + y.lo) < x.lo from q1)]; rfl)
  · refine g_done (by kernel_rfl) ?_
    exact (show _ = some (A.agg [D.bool false, D.int IntKind.u64 (IntKind.u64.wrap (x.hi + y.hi)), D.int IntKind.u64 (IntKind.u64.wrap (x.lo + y.lo))], []) from by kernel_rfl).trans (by simp only [decide_eq_false_iff_not] at q1; rw [wPlus, if_neg (show ¬ U (x.lo + y.lo) < x.lo from q1)]; rfl)
theorem wminus_runs (x y : Wd) : Runs Try.prog 80 [x.a, y.a] [] (wMinus x y).a [] := by
  refine r_fn (fn := Try.f80) rfl rfl (by kernel_rfl) ?_
  refine g_cbr (b := decide (x.lo < y.lo)) (by kernel_rfl) (fun q1 => ?_) (fun q1 => ?_)
  · refine g_done (by kernel_rfl) ?_
    exact (show _ = some (A.agg [D.bool false, D.int IntKind.u64 (IntKind.u64.wrap (IntKind.u64.wrap (x.hi - y.hi) - 1)), D.int IntKind.u64 (IntKind.u64.wrap (x.lo - y.lo))], []) from by kernel_rfl).trans (by simp only [decide_eq_true_eq] at q1; rw [wMinus, if_pos q1]; rfl)
  · refine g_done (by kernel_rfl) ?_
    exact (show _ = some (A.agg [D.bool false, D.int IntKind.u64 (IntKind.u64.wrap (x.hi - y.hi)), D.int IntKind.u64 (IntKind.u64.wrap (x.lo - y.lo))], []) from by kernel_rfl).trans (by simp only [decide_eq_false_iff_not] at q1; rw [wMinus, if_neg q1]; rfl)
theorem wint_runs (x : Wd) : Runs Try.prog 56 [x.a] [] (.tup [.d (.int .i64 (wInt x).1), .d (.bool (wInt x).2)]) [] := by
  refine r_fn (fn := Try.f56) rfl rfl (by kernel_rfl) ?_
  refine g_cbr (b := x.hi != 0) (by kernel_rfl) (fun q1 => ?_) (fun q1 => ?_)
  · refine g_done (by kernel_rfl) ?_
    exact (show _ = some (A.tup [V.d (D.int IntKind.i64 0), V.d (D.bool false)], []) from by kernel_rfl).trans (by simp_all [wInt]; done)
  · refine g_cbr (b := x.neg) (by kernel_rfl) (fun q2 => ?_) (fun q2 => ?_)
    · refine g_cbr (b := decide (x.lo > 9223372036854775808)) (by kernel_rfl) (fun q3 => ?_) (fun q3 => ?_)
      · refine g_done (by kernel_rfl) ?_
        exact (show _ = some (A.tup [V.d (D.int IntKind.i64 0), V.d (D.bool false)], []) from by kernel_rfl).trans (by simp_all [wInt]; done)
      · refine g_cbr (b := x.lo == 0) (by kernel_rfl) (fun q4 => ?_) (fun q4 => ?_)
        · refine g_done (by kernel_rfl) ?_
          exact (show _ = some (A.tup [V.d (D.int IntKind.i64 0), V.d (D.bool true)], []) from by kernel_rfl).trans (by simp_all [wInt]; done)
        · refine g_done (by kernel_rfl) ?_
          exact (show _ = some (A.tup [V.d (D.int IntKind.i64 (IntKind.i64.wrap (IntKind.i64.wrap (0 - IntKind.i64.wrap (IntKind.u64.wrap (x.lo - 1))) - 1))), V.d (D.bool true)], []) from by kernel_rfl).trans (by rw [wInt, if_neg (by rw [q1]; decide), if_pos q2, if_neg (by simpa using q3), if_neg (by rw [q4]; decide)]; rfl)
    · refine g_cbr (b := decide (x.lo ≥ 9223372036854775808)) (by kernel_rfl) (fun q3 => ?_) (fun q3 => ?_)
      · refine g_done (by kernel_rfl) ?_
        exact (show _ = some (A.tup [V.d (D.int IntKind.i64 0), V.d (D.bool false)], []) from by kernel_rfl).trans (by simp_all [wInt]; done)
      · refine g_done (by kernel_rfl) ?_
        exact (show _ = some (A.tup [V.d (D.int IntKind.i64 (IntKind.i64.wrap x.lo)), V.d (D.bool true)], []) from by kernel_rfl).trans (by rw [wInt, if_neg (by rw [q1]; decide), if_neg (by rw [q2]; decide), if_neg (by simpa using q3)]; rfl)
theorem wadd_runs (x y : Wd) : Runs Try.prog 57 [x.a, y.a] [] (wAdd x y).a [] := by
  refine r_fn (fn := Try.f57) rfl rfl (by kernel_rfl) ?_
  refine g_cbr (b := x.neg == y.neg) (by kernel_rfl) (fun q1 => ?_) (fun q1 => ?_)
  · refine g_call (by kernel_rfl) (Po.wplus_runs (x) (y)) ?_
    refine g_callG (gs := [x.neg]) (by kernel_rfl) (fun hg => (Po.wzero_runs (wPlus x y))) ?_
    refine g_imps (by kernel_rfl) ?_
    refine g_done (by kernel_rfl) ?_
    exact (show _ = some (A.agg [D.bool (x.neg && !wZero (wPlus x y)), D.int IntKind.u64 (wPlus x y).hi, D.int IntKind.u64 (wPlus x y).lo], []) from by kernel_rfl).trans (by rw [wAdd, if_pos q1]; rfl)
  · refine g_call (by kernel_rfl) (Po.wsize_runs (x) (y)) ?_
    refine g_cbr (b := wSize x y) (by kernel_rfl) (fun q2 => ?_) (fun q2 => ?_)
    · refine g_call (by kernel_rfl) (Po.wminus_runs (y) (x)) ?_
      refine g_callG (gs := [y.neg]) (by kernel_rfl) (fun hg => (Po.wzero_runs (wMinus y x))) ?_
      refine g_imps (by kernel_rfl) ?_
      refine g_done (by kernel_rfl) ?_
      exact (show _ = some (A.agg [D.bool (y.neg && !wZero (wMinus y x)), D.int IntKind.u64 (wMinus y x).hi, D.int IntKind.u64 (wMinus y x).lo], []) from by kernel_rfl).trans (by rw [wAdd, if_neg (by rw [q1]; decide), if_pos q2]; rfl)
    · refine g_call (by kernel_rfl) (Po.wminus_runs (x) (y)) ?_
      refine g_callG (gs := [x.neg]) (by kernel_rfl) (fun hg => (Po.wzero_runs (wMinus x y))) ?_
      refine g_imps (by kernel_rfl) ?_
      refine g_done (by kernel_rfl) ?_
      exact (show _ = some (A.agg [D.bool (x.neg && !wZero (wMinus x y)), D.int IntKind.u64 (wMinus x y).hi, D.int IntKind.u64 (wMinus x y).lo], []) from by kernel_rfl).trans (by rw [wAdd, if_neg (by rw [q1]; decide), if_neg (by rw [q2]; decide)]; rfl)
theorem wopp_runs (x : Wd) : Runs Try.prog 75 [x.a] [] (wOpp x).a [] := by
  refine r_fn (fn := Try.f75) rfl rfl (by kernel_rfl) ?_
  refine g_call (by kernel_rfl) (Po.wzero_runs (x)) ?_
  refine g_cbr (b := wZero x) (by kernel_rfl) (fun q1 => ?_) (fun q1 => ?_)
  · refine g_done (by kernel_rfl) ?_
    exact (show _ = some (A.agg [D.bool x.neg, D.int IntKind.u64 x.hi, D.int IntKind.u64 x.lo], []) from by kernel_rfl).trans (by rw [wOpp, if_pos q1]; rfl)
  · refine g_done (by kernel_rfl) ?_
    exact (show _ = some (A.agg [D.bool !x.neg, D.int IntKind.u64 x.hi, D.int IntKind.u64 x.lo], []) from by kernel_rfl).trans (by rw [wOpp, if_neg (by rw [q1]; decide)]; rfl)
theorem wmul_runs (a b : Int) : Runs Try.prog 73 [i64 a, i64 b] [] (wMul a b).a [] := by
  refine r_fn (fn := Try.f73) rfl rfl (by kernel_rfl) ?_
  refine g_call (by kernel_rfl) (wof_runs a) ?_
  refine g_call (by kernel_rfl) (wof_runs b) ?_
  refine g_round (by kernel_rfl) ?_
  refine g_cbr (b := decide ((0 : Int) < 2)) (by kernel_rfl) (fun _ => ?_) (fun h => absurd h (by decide))
  refine g_need (c := decide ((0 : Int) ≤ 0) && decide ((0 : Int) < 2)) (by kernel_rfl) (by decide) ?_
  refine g_call (by kernel_rfl) (wplus_runs ⟨false, U (hi32 (wOf a).lo * hi32 (wOf b).lo), U (lo32 (wOf a).lo * lo32 (wOf b).lo)⟩ ⟨false, hi32 (U (lo32 (wOf a).lo * hi32 (wOf b).lo)), U (U (lo32 (wOf a).lo * hi32 (wOf b).lo) * 4294967296)⟩) ?_
  refine g_done (by kernel_rfl) (.inl ⟨by kernel_rfl, _, St.le_refl _, ?_⟩)
  refine g_round (by kernel_rfl) ?_
  refine g_cbr (b := decide ((1 : Int) < 2)) (by kernel_rfl) (fun _ => ?_) (fun h => absurd h (by decide))
  refine g_need (c := decide ((0 : Int) ≤ 1) && decide ((1 : Int) < 2)) (by kernel_rfl) (by decide) ?_
  refine g_call (by kernel_rfl) (wplus_runs (wPlus ⟨false, U (hi32 (wOf a).lo * hi32 (wOf b).lo), U (lo32 (wOf a).lo * lo32 (wOf b).lo)⟩ ⟨false, hi32 (U (lo32 (wOf a).lo * hi32 (wOf b).lo)), U (U (lo32 (wOf a).lo * hi32 (wOf b).lo) * 4294967296)⟩)
    ⟨false, hi32 (U (hi32 (wOf a).lo * lo32 (wOf b).lo)), U (U (hi32 (wOf a).lo * lo32 (wOf b).lo) * 4294967296)⟩) ?_
  refine g_done (by kernel_rfl) (.inl ⟨by kernel_rfl, _, St.le_refl _, ?_⟩)
  refine g_round (by kernel_rfl) ?_
  refine g_cbr (b := decide ((2 : Int) < 2)) (by kernel_rfl) (fun h => absurd h (by decide)) (fun _ => ?_)
  refine g_done (by kernel_rfl) (.inr ⟨by kernel_rfl, ?_⟩)
  refine g_callG (gs := [!(wOf a).neg == (wOf b).neg]) (by kernel_rfl) (fun hg => (Po.wzero_runs (wPlus (wPlus { neg := false, hi := U (hi32 (wOf a).lo * hi32 (wOf b).lo), lo := U (lo32 (wOf a).lo * lo32 (wOf b).lo) : Wd } { neg := false, hi := hi32 (U (lo32 (wOf a).lo * hi32 (wOf b).lo)), lo := U (U (lo32 (wOf a).lo * hi32 (wOf b).lo) * 4294967296) : Wd }) { neg := false, hi := hi32 (U (hi32 (wOf a).lo * lo32 (wOf b).lo)), lo := U (U (hi32 (wOf a).lo * lo32 (wOf b).lo) * 4294967296) : Wd }))) ?_
  refine g_imps (by kernel_rfl) ?_
  refine g_done (by kernel_rfl) ?_
  kernel_rfl
end Po
