/- Dates: what the document's functions compute, step by step. -/
import Derived.Test.YtggkkkpafealkaaPoS1
import Derived.Test.YtggkkkpafealkaaProg
open Go Go.Ab Go.Proofs
namespace Po
theorem leap_runs (y : Int) : Runs Try.prog 22 [i64 y] [] (bo (leap y)) [] := by
  refine r_fn (fn := Try.f22) rfl rfl (by kernel_rfl) ?_
  refine g_cbr (b := y.tmod 400 == 0) (by kernel_rfl) (fun q1 => ?_) (fun q1 => ?_)
  · refine g_done (by kernel_rfl) ?_
    exact (show _ = some (A.d (D.bool true), []) from by kernel_rfl).trans (by simp_all [leap])
  · refine g_cbr (b := y.tmod 100 == 0) (by kernel_rfl) (fun q2 => ?_) (fun q2 => ?_)
    · refine g_done (by kernel_rfl) ?_
      exact (show _ = some (A.d (D.bool false), []) from by kernel_rfl).trans (by simp_all [leap])
    · refine g_done (by kernel_rfl) ?_
      exact (show _ = some (A.d (D.bool (y.tmod 4 == 0)), []) from by kernel_rfl).trans (by rw [leap, q1, q2]; rfl)
theorem days_runs (y m : Int) : Runs Try.prog 23 [i64 y, i64 m] [] (i64 (days y m)) [] := by
  refine r_fn (fn := Try.f23) rfl rfl (by kernel_rfl) ?_
  refine g_imps (by kernel_rfl) ?_
  refine g_cbr (b := decide (m < 1) || decide (m > 12)) (by kernel_rfl) (fun q1 => ?_) (fun q1 => ?_)
  · refine g_done (by kernel_rfl) ?_
    exact (show _ = some (A.d (D.int IntKind.i64 0), []) from by kernel_rfl).trans (by simp_all [days])
  · refine g_callG (gs := [m == 2]) (by kernel_rfl) (fun hg => (Po.leap_runs (y))) ?_
    refine g_imps (by kernel_rfl) ?_
    refine g_cbr (b := m == 2 && leap y) (by kernel_rfl) (fun q2 => ?_) (fun q2 => ?_)
    · refine g_done (by kernel_rfl) ?_
      exact (show _ = some (A.d (D.int IntKind.i64 29), []) from by kernel_rfl).trans (by simp_all [days])
    · refine g_need (c := decide (0 ≤ IntKind.i64.wrap (m - 1)) && decide (IntKind.i64.wrap (m - 1) < (↑12 : Int))) (by kernel_rfl) (by simp at q1; rw [w64 (by omega) (by omega)]; simp; omega) ?_
      refine g_done (by kernel_rfl) ?_
      exact (show _ = some (A.d (rowD [D.int IntKind.i64 31, D.int IntKind.i64 28, D.int IntKind.i64 31, D.int IntKind.i64 30, D.int IntKind.i64 31, D.int IntKind.i64 30, D.int IntKind.i64 31, D.int IntKind.i64 31, D.int IntKind.i64 30, D.int IntKind.i64 31, D.int IntKind.i64 30, D.int IntKind.i64 31] 1 (IntKind.i64.wrap (m - 1)).toNat 0), []) from by kernel_rfl).trans (by rw [w64 (by simp at q1; omega) (by simp at q1; omega), days, if_neg (by simp at q1 ⊢; omega), q2]; generalize hq : (m - 1).toNat = q; have : q ≤ 11 := (by simp at q1; omega); clear hq q1 q2; rcases q with _|_|_|_|_|_|_|_|_|_|_|_|q <;> first | rfl | omega)
theorem good_runs (y m d : Int) : Runs Try.prog 24 [.agg [.int .i64 y, .int .i64 m, .int .i64 d]] [] (bo (good y m d)) [] := by
  refine r_fn (fn := Try.f24) rfl rfl (by kernel_rfl) ?_
  refine g_callG (gs := [decide (y ≥ 1) && decide (y ≤ 9999) && decide (m ≥ 1) && decide (m ≤ 12) && decide (d ≥ 1)]) (by kernel_rfl) (fun hg => (Po.days_runs (y) (m))) ?_
  refine g_imps (by kernel_rfl) ?_
  refine g_done (by kernel_rfl) ?_
  kernel_rfl
structure DigL where (n i : Int) (s : ByteArray)
theorem digits_runs (n k : Int) (hk0 : 0 ≤ k) (hk : k ≤ 100) : Runs Try.prog 25 [i64 n, i64 k] [] (tx (digs k.toNat n [])) [] := by
  refine r_fn (fn := Try.f25) rfl rfl (by kernel_rfl) ?_
  refine g_lp (by kernel_rfl) (fun x : DigL => mkSt 23 [(0, i64 x.n), (1, i64 k), (5, .d (.str x.s)), (6, i64 x.i)] []) (fun x => 0 ≤ x.i ∧ x.i ≤ k ∧ ∃ l, x.s = ofL l ∧ l.length = x.i.toNat ∧ digs (k - x.i).toNat x.n l = digs k.toNat n []) (fun x => (k - x.i).toNat) ⟨n, 0, ofL []⟩ (le_mk (by kernel_rfl)) ⟨by simp, hk0, [], rfl, rfl, by simp⟩ ?_
  rintro x ⟨hi0, hik, l, hs, hl, hg⟩
  refine g_cbr (b := decide (x.i < k)) (by kernel_rfl) (fun q1 => ?_) (fun q1 => ?_)
  · refine g_need (c := decide ((strB [IntKind.u8.wrap (IntKind.i64.wrap (48 + x.n.tmod 10))]).size + x.s.size ≤ 9223372036854775807)) (by kernel_rfl) (by rw [hs, strB_one, size_ofL, size_ofL, hl]; simp; omega) ?_
    refine g_done (by kernel_rfl) ?_
    exact g_again (by kernel_rfl) ({ n := IntKind.i64.wrap (x.n.tdiv 10), i := IntKind.i64.wrap (x.i + 1), s := strB [IntKind.u8.wrap (IntKind.i64.wrap (48 + x.n.tmod 10))] ++ x.s : DigL }) (by simp at q1; simp only []; rw [w64 (by omega) (by omega)]; refine ⟨by omega, by omega, dig x.n :: l, by rw [hs, strB_one, ofL_app]; rfl, by simp [hl]; omega, ?_⟩; rw [← hg, show (k - x.i).toNat = (k - (x.i + 1)).toNat + 1 by omega]; rfl) (by simp at q1; simp only; rw [w64 (by omega) (by omega)]; omega) (le_mk (by kernel_rfl))
  · refine g_done (by kernel_rfl) ?_
    refine g_leave (by kernel_rfl) ?_
    refine g_done (by kernel_rfl) ?_
    exact (show _ = some (A.d (D.str x.s), []) from by kernel_rfl).trans (by simp at q1; rw [hs, ← hg, show (k - x.i).toNat = 0 by omega]; rfl)
theorem text_runs (y m d : Int) : Runs Try.prog 10 [.agg [.int .i64 y, .int .i64 m, .int .i64 d]] [] (tx (dtext y m d)) [] := by
  refine r_fn (fn := Try.f10) rfl rfl (by kernel_rfl) ?_
  refine g_call (by kernel_rfl) (Po.good_runs (y) (m) (d)) ?_
  refine g_cbr (b := !good y m d) (by kernel_rfl) (fun q1 => ?_) (fun q1 => ?_)
  · refine g_done (by kernel_rfl) ?_
    exact (show _ = some (A.d (D.str (ofL [])), []) from by kernel_rfl).trans (by simp at q1; rw [dtext, q1]; rfl)
  · refine g_call (by kernel_rfl) (Po.digits_runs (y) (4) (by decide) (by decide)) ?_
    refine g_call (by kernel_rfl) (Po.digits_runs (m) (2) (by decide) (by decide)) ?_
    refine g_call (by kernel_rfl) (Po.digits_runs (d) (2) (by decide) (by decide)) ?_
    refine g_need (c := decide ((ofL (digs (Int.toNat 4) y [])).size + (ofL [45]).size ≤ 9223372036854775807) && (decide ((ofL (digs (Int.toNat 4) y []) ++ (ofL [45])).size + (ofL (digs (Int.toNat 2) m [])).size ≤ 9223372036854775807) && (decide ((ofL (digs (Int.toNat 4) y []) ++ (ofL [45]) ++ ofL (digs (Int.toNat 2) m [])).size + (ofL [45]).size ≤ 9223372036854775807) && decide ((ofL (digs (Int.toNat 4) y []) ++ (ofL [45]) ++ ofL (digs (Int.toNat 2) m []) ++ (ofL [45])).size + (ofL (digs (Int.toNat 2) d [])).size ≤ 9223372036854775807)))) (by kernel_rfl) (by simp only [size_ofL, digs_length, ByteArray.size_append]; simp [ByteArray.size]) ?_
    refine g_done (by kernel_rfl) ?_
    exact (show _ = some (A.d (D.str (ofL (digs (Int.toNat 4) y []) ++ (ofL [45]) ++ ofL (digs (Int.toNat 2) m []) ++ (ofL [45]) ++ ofL (digs (Int.toNat 2) d []))), []) from by kernel_rfl).trans (by simp at q1; rw [dtext, q1, ofL_app, ofL_app, ofL_app, ofL_app]; simp)
end Po
