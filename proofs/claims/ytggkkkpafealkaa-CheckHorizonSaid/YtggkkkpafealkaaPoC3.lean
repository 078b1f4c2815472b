/- Letters and tokens: step by step. -/
import Derived.Test.YtggkkkpafealkaaPoS3
import Derived.Test.YtggkkkpafealkaaPoC2
import Derived.Test.YtggkkkpafealkaaProg
open Go Go.Ab Go.Proofs
namespace Po
theorem letter_runs (c : Int) : Runs Try.prog 48 [u8 c] [] (bo (letter c)) [] := by
  refine r_fn (fn := Try.f48) rfl rfl (by kernel_rfl) ?_
  refine g_imps (by kernel_rfl) ?_
  refine g_done (by kernel_rfl) ?_
  kernel_rfl
theorem digit_runs (c : Int) : Runs Try.prog 82 [u8 c] [] (bo (digit c)) [] := by
  refine r_fn (fn := Try.f82) rfl rfl (by kernel_rfl) ?_
  refine g_imps (by kernel_rfl) ?_
  refine g_done (by kernel_rfl) ?_
  kernel_rfl
theorem words_runs : Runs Try.prog 67 [] [] (.d (.sl 26 1 fun i _ => .str (ofL (words.getD i [])))) [] := by
  refine Runs.to (d0 := .sl 26 1 (rowD (words.map fun w => .str (ofL w)) 1)) ?_ (sl_le fun i hi j hj => ?_)
  · refine r_fn (fn := Try.f67) rfl rfl (by kernel_rfl) ?_
    refine g_done (by kernel_rfl) ?_
    kernel_rfl
  · obtain rfl : j = 0 := by omega
    have : i < words.length := hi
    show (words.map fun w => D.str (ofL w)).getD (i * 1 + 0) .nil = _
    simp [this]
structure NfL where (i p : Int)
theorem nof_runs (l : Bs) (hl : l.length ≤ 1000000) : Runs Try.prog 68 [tx l] [] (i64 (nof l)) [] := by
  refine r_fn (fn := Try.f68) rfl rfl (by kernel_rfl) ?_
  refine g_callG (gs := [!(l == ([] : Bs))]) (by kernel_rfl) (fun _ => (Po.digit_runs (at_ l 0))) ?_
  refine g_imps (by kernel_rfl) ?_
  refine g_need (c := (!(!l == ([] : Bs) && true) || decide (0 ≤ 0)) && (!(!l == ([] : Bs) && true) || decide (0 < (l.length : Int)))) (by kernel_rfl) (by cases l <;> simp) ?_
  refine g_cbr (b := l == ([] : Bs) || !digit (at_ l 0)) (by kernel_rfl) (fun h1 => ?_) (fun h1 => ?_)
  · refine g_done (by kernel_rfl) ?_
    exact (show _ = some (A.d (D.int IntKind.i64 0), []) from by kernel_rfl).trans (by rw [nof, if_pos h1])
  have hp : 0 < l.length := ne_len (fun h => by rw [h] at h1; exact absurd h1 (by decide))
  refine g_lp (by kernel_rfl) (fun x : NfL => mkSt 54 [(0, tx l), (3, i64 x.p), (4, i64 x.i)] []) (fun x => 0 ≤ x.i ∧ x.i ≤ l.length ∧ 0 ≤ x.p ∧ x.p ≤ 1 ∧ nofGo (l.drop x.i.toNat) x.p = nofGo l 0) (fun x => ((l.length : Int) - x.i).toNat) ⟨0, 0⟩ (le_mk (by kernel_rfl)) ⟨by simp, by simp, by simp, by simp, rfl⟩ ?_
  rintro x ⟨hi0, hi1, hp0, hp1, hg⟩
  refine g_cbr (b := decide (x.i < (l.length : Int))) (by kernel_rfl) (fun q1 => ?_) (fun q1 => ?_)
  · refine g_need (c := decide (0 ≤ x.i) && decide (x.i < (l.length : Int))) (by kernel_rfl) (by simp at q1; simp; omega) ?_
    refine g_cbr (b := at_ l x.i == 46) (by kernel_rfl) (fun q2 => ?_) (fun q2 => ?_)
    · refine g_imps (by kernel_rfl) ?_
      refine g_cbr (b := decide (IntKind.i64.wrap (x.p + 1) > 1) || x.i == IntKind.i64.wrap ((l.length : Int) - 1)) (by kernel_rfl) (fun q3 => ?_) (fun q3 => ?_)
      · refine g_done (by kernel_rfl) ?_
        refine g_leave (by kernel_rfl) ?_
        refine g_done (by kernel_rfl) ?_
        exact (show _ = some (A.d (D.int IntKind.i64 0), []) from by kernel_rfl).trans (by simp at q1; rw [w64 (by omega) (by omega), w64 (by omega) (by omega)] at q3; rw [nofGo_at hi0 q1, if_pos q2, if_pos q3] at hg; rw [nof, if_neg (by rw [h1]; decide), ← hg])
      · refine g_done (by kernel_rfl) ?_
        exact g_again (by kernel_rfl) ({ i := IntKind.i64.wrap (x.i + 1), p := IntKind.i64.wrap (x.p + 1) : NfL }) (by simp at q1; rw [w64 (by omega) (by omega), w64 (by omega) (by omega)] at q3; rw [nofGo_at hi0 q1, if_pos q2, if_neg (by rw [q3]; decide)] at hg; simp at q3; simp only []; rw [w64 (by omega) (by omega), w64 (by omega) (by omega)]; exact ⟨by omega, by omega, by omega, by omega, hg⟩) (by simp at q1; simp only []; rw [w64 (by omega) (by omega)]; omega) (le_mk (by kernel_rfl))
    · refine g_call (by kernel_rfl) (Po.digit_runs (at_ l x.i)) ?_
      refine g_need (c := decide (0 ≤ x.i) && decide (x.i < (l.length : Int))) (by kernel_rfl) (by simp at q1; simp; omega) ?_
      refine g_cbr (b := !digit (at_ l x.i)) (by kernel_rfl) (fun q3 => ?_) (fun q3 => ?_)
      · refine g_done (by kernel_rfl) ?_
        refine g_leave (by kernel_rfl) ?_
        refine g_done (by kernel_rfl) ?_
        exact (show _ = some (A.d (D.int IntKind.i64 0), []) from by kernel_rfl).trans (by simp at q1; rw [nofGo_at hi0 q1, if_neg (by rw [q2]; decide), if_pos q3] at hg; rw [nof, if_neg (by rw [h1]; decide), ← hg])
      · refine g_done (by kernel_rfl) ?_
        exact g_again (by kernel_rfl) ({ i := IntKind.i64.wrap (x.i + 1), p := x.p : NfL }) (by simp at q1; rw [nofGo_at hi0 q1, if_neg (by rw [q2]; decide), if_neg (by rw [q3]; decide)] at hg; simp only []; rw [w64 (by omega) (by omega)]; exact ⟨by omega, by omega, by omega, by omega, hg⟩) (by simp at q1; simp only []; rw [w64 (by omega) (by omega)]; omega) (le_mk (by kernel_rfl))
  · refine g_done (by kernel_rfl) ?_
    refine g_leave (by kernel_rfl) ?_
    refine g_imps (by kernel_rfl) ?_
    refine g_need (c := decide (0 ≤ 0) && (decide (0 < (l.length : Int)) && ((!(at_ l 0 == 48 && decide ((l.length : Int) > 1) && true) || decide (0 ≤ 1)) && (!(at_ l 0 == 48 && decide ((l.length : Int) > 1) && true) || decide (1 < (l.length : Int)))))) (by kernel_rfl) (by simp; omega) ?_
    refine g_cbr (b := at_ l 0 == 48 && decide ((l.length : Int) > 1) && at_ l 1 != 46) (by kernel_rfl) (fun q2 => ?_) (fun q2 => ?_)
    · refine g_done (by kernel_rfl) ?_
      exact (show _ = some (A.d (D.int IntKind.i64 0), []) from by kernel_rfl).trans (by simp at q1; rw [List.drop_of_length_le (by omega), nofGo] at hg; rw [nof, if_neg (by rw [h1]; decide), ← hg]; simp only; rw [if_pos q2])
    · refine g_done (by kernel_rfl) ?_
      exact (show _ = some (A.d (D.int IntKind.i64 (IntKind.i64.wrap (1 + x.p))), []) from by kernel_rfl).trans (by simp at q1; rw [List.drop_of_length_le (by omega), nofGo] at hg; rw [nof, if_neg (by rw [h1]; decide), ← hg]; simp only; rw [if_neg (by rw [q2]; decide), w64 (by omega) (by omega)])
end Po
