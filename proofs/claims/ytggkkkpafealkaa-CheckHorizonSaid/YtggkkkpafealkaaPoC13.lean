/- The law's parts: step by step. -/
import Derived.Test.YtggkkkpafealkaaPoS13
import Derived.Test.YtggkkkpafealkaaPoC12
import Derived.Test.YtggkkkpafealkaaProg
open Go Go.Ab Go.Proofs
namespace Po
theorem parse1 : (parse txt1).plan = pl1 := by kernel_rfl
theorem parse2 : (parse txt2).plan = pl2 := by kernel_rfl
theorem of_runs (s : Bs) : Runs Try.prog 6 [tx s] [] (.tup [.agg (parse s).plan.cs, .d (.bool (ofOk s))]) [] := by
  refine r_fn (fn := Try.f6) rfl rfl (by kernel_rfl) ?_
  refine g_call (by kernel_rfl) (Po.parse_runs (s)) ?_
  refine g_imps (by kernel_rfl) ?_
  refine g_done (by kernel_rfl) ?_
  kernel_rfl
theorem span_runs (a b : Dt) : Runs Try.prog 39 [a.a, b.a] [] (.tup [.d (.int .i64 (dnum a)), .d (.int .i64 (dnum b)), .d (.bool (spanOk a b))]) [] := by
  refine r_fn (fn := Try.f39) rfl rfl (by kernel_rfl) ?_
  refine g_call (by kernel_rfl) (Po.dnum_runs (a)) ?_
  refine g_call (by kernel_rfl) (Po.dnum_runs (b)) ?_
  refine g_imps (by kernel_rfl) ?_
  refine g_done (by kernel_rfl) ?_
  kernel_rfl
theorem horizon_runs (p : Pl) : Runs Try.prog 13 [.agg p.cs] [] (i64 (hErr p)) [] := by
  refine r_fn (fn := Try.f13) rfl rfl (by kernel_rfl) ?_
  have h1 := dnum_range p.f
  have h2 := dnum_range p.t
  refine g_call (by kernel_rfl) (Po.span_runs (p.f) (p.t)) ?_
  refine g_cbr (b := !spanOk p.f p.t) (by kernel_rfl) (fun q1 => ?_) (fun q1 => ?_)
  · refine g_done (by kernel_rfl) ?_
    exact (show _ = some (A.d (D.int IntKind.i64 5), []) from by kernel_rfl).trans (by rw [hErr, q1])
  · refine g_cbr (b := decide (IntKind.i64.wrap (dnum p.t - dnum p.f) ≥ 4000)) (by kernel_rfl) (fun q2 => ?_) (fun q2 => ?_)
    · refine g_done (by kernel_rfl) ?_
      exact (show _ = some (A.d (D.int IntKind.i64 6), []) from by kernel_rfl).trans (by rw [w64 (by omega) (by omega)] at q2; rw [hErr, q1, q2])
    · refine g_done (by kernel_rfl) ?_
      exact (show _ = some (A.d (D.int IntKind.i64 0), []) from by kernel_rfl).trans (by rw [w64 (by omega) (by omega)] at q2; rw [hErr, q1, q2])
abbrev flt (e l c : Int) : A := .agg [.int .i64 e, .int .i64 l, .int .i64 c]
theorem plan1_runs : Runs Try.prog 7 [.agg pl1.cs] [] (flt 5 2 1) [] := evF_runs (n := 3000) (by kernel_rfl)
theorem plan2_runs : Runs Try.prog 7 [.agg pl2.cs] [] (flt 0 0 0) [] := evF_runs (n := 3000) (by kernel_rfl)
theorem bound2_runs : Runs Try.prog 11 [.agg pl2.cs] [] (.tup [.d (.int .i64 14), .d (.bool true)]) [] := evF_runs (n := 3000) (by kernel_rfl)
theorem of1_runs : Runs Try.prog 6 [tx txt1] [] (.tup [.agg pl1.cs, .d (.bool (ofOk txt1))]) [] := by rw [← parse1]; exact of_runs txt1
theorem of2_runs : Runs Try.prog 6 [tx txt2] [] (.tup [.agg pl2.cs, .d (.bool (ofOk txt2))]) [] := by rw [← parse2]; exact of_runs txt2
theorem alive_runs : Runs Try.prog 5 [] [] (bo true) [] := by
  refine r_fn (fn := Try.f5) rfl rfl (by kernel_rfl) ?_
  refine g_call (by kernel_rfl) of1_runs ?_
  refine g_call (by kernel_rfl) of2_runs ?_
  refine g_call (by kernel_rfl) bound2_runs ?_
  refine g_call (by kernel_rfl) (Po.plan1_runs ) ?_
  refine g_callG (gs := [5 == 5 && (2 == 2 && (1 == 1 && true))]) (by kernel_rfl) (fun hg => (Po.plan2_runs )) ?_
  refine g_imps (by kernel_rfl) ?_
  refine g_done (by kernel_rfl) ?_
  kernel_rfl
/-- a plan of nothing but days -/
def pl0 (n c : Bs) (f t : Dt) (line col : Int) : Pl := ⟨n, c, f, t, [], [], [], line, col⟩
theorem bound0_runs (n c : Bs) (f t : Dt) (line col : Int) : Runs Try.prog 11 [.agg (pl0 n c f t line col).cs] [] (.tup [.d (.int .i64 0), .d (.bool true)]) [] := by
  refine r_fn (fn := Try.f11) rfl rfl (by kernel_rfl) ?_
  refine g_round (by kernel_rfl) ?_
  refine g_cbr (b := false) (by kernel_rfl) (fun h => by cases h) (fun _ => ?_)
  refine g_done (by kernel_rfl) (.inr ⟨by kernel_rfl, ?_⟩)
  refine g_round (by kernel_rfl) ?_
  refine g_cbr (b := false) (by kernel_rfl) (fun h => by cases h) (fun _ => ?_)
  refine g_done (by kernel_rfl) (.inr ⟨by kernel_rfl, ?_⟩)
  refine g_cbr (b := false) (by kernel_rfl) (fun h => by cases h) (fun _ => ?_)
  exact g_done (by kernel_rfl) (by kernel_rfl)
theorem plan0_runs (n c : Bs) (f t : Dt) (line col : Int) : Runs Try.prog 7 [.agg (pl0 n c f t line col).cs] [] (match hErr (pl0 n c f t line col) != 0 with | true => flt (hErr (pl0 n c f t line col)) line col | false => flt 0 0 0) [] := by
  refine r_fn (fn := Try.f7) rfl rfl (by kernel_rfl) ?_
  refine g_call (by kernel_rfl) (horizon_runs (pl0 n c f t line col)) ?_
  refine g_cbr (b := hErr (pl0 n c f t line col) != 0) (by kernel_rfl) (fun q => ?_) (fun q => ?_)
  · rw [q]
    refine g_done (by kernel_rfl) ?_
    kernel_rfl
  · rw [q]
    refine g_round (by kernel_rfl) ?_
    refine g_cbr (b := false) (by kernel_rfl) (fun h => by cases h) (fun _ => ?_)
    refine g_done (by kernel_rfl) (.inr ⟨by kernel_rfl, ?_⟩)
    refine g_round (by kernel_rfl) ?_
    refine g_cbr (b := false) (by kernel_rfl) (fun h => by cases h) (fun _ => ?_)
    refine g_done (by kernel_rfl) (.inr ⟨by kernel_rfl, ?_⟩)
    refine g_round (by kernel_rfl) ?_
    refine g_cbr (b := false) (by kernel_rfl) (fun h => by cases h) (fun _ => ?_)
    refine g_done (by kernel_rfl) (.inr ⟨by kernel_rfl, ?_⟩)
    refine g_call (by kernel_rfl) (bound0_runs n c f t line col) ?_
    refine g_cbr (b := false) (by kernel_rfl) (fun h => by cases h) (fun _ => ?_)
    exact g_done (by kernel_rfl) (by kernel_rfl)
end Po
