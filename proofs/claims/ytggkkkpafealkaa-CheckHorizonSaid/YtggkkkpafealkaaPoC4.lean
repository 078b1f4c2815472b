/- Of what kind letters are; a text's tokens: step by step. -/
import Derived.Test.YtggkkkpafealkaaPoS4
import Derived.Test.YtggkkkpafealkaaPoC3
import Derived.Test.YtggkkkpafealkaaProg
open Go Go.Ab Go.Proofs
namespace Po
structure KfL where (i : Int) (p : Bool)
structure KfW where (i : Int)
theorem kof_runs (l : Bs) (hl : l.length ≤ 1000000) : Runs Try.prog 49 [tx l] [] (i64 (kof l)) [] := by
  refine r_fn (fn := Try.f49) rfl rfl (by kernel_rfl) ?_
  refine g_imps (by kernel_rfl) ?_
  refine g_cbr (b := l == [123] || l == [125] || l == [59]) (by kernel_rfl) (fun h1 => ?_) (fun h1 => ?_)
  · refine g_done (by kernel_rfl) ?_
    exact (show _ = some (A.d (D.int IntKind.i64 5), []) from by kernel_rfl).trans (by rw [kof, if_pos h1])
  refine g_cbr (b := l == []) (by kernel_rfl) (fun h2 => ?_) (fun h2 => ?_)
  · refine g_done (by kernel_rfl) ?_
    exact (show _ = some (A.d (D.int IntKind.i64 0), []) from by kernel_rfl).trans (by rw [kof, if_neg (by rw [h1]; decide), if_pos h2])
  have hp : 0 < l.length := ne_len (fun h => by rw [h] at h2; exact absurd h2 (by decide))
  refine g_lp (by kernel_rfl) (fun x : KfL => mkSt 75 [(0, tx l), (3, bo x.p), (4, i64 x.i)] []) (fun x => 0 ≤ x.i ∧ x.i ≤ l.length ∧ kGo (l.drop x.i.toNat) x.p = kGo l true) (fun x => ((l.length : Int) - x.i).toNat) ⟨0, true⟩ (le_mk (by kernel_rfl)) ⟨by simp, by simp, rfl⟩ ?_
  rintro x ⟨hi0, hi1, hg⟩
  refine g_cbr (b := decide (x.i < (l.length : Int))) (by kernel_rfl) (fun h3 => ?_) (fun h3 => ?_)
  · simp only [decide_eq_true_eq] at h3
    rw [kGo_at hi0 h3] at hg
    refine g_call (by kernel_rfl) (Po.letter_runs (at_ l x.i)) ?_
    refine g_need (c := decide (0 ≤ x.i) && decide (x.i < (l.length : Int))) (by kernel_rfl) (by simp; omega) ?_
    refine g_cbr (b := !letter (at_ l x.i)) (by kernel_rfl) (fun q1 => ?_) (fun q1 => ?_)
    · refine g_done (by kernel_rfl) ?_
      refine g_leave (by kernel_rfl) ?_
      refine g_done (by kernel_rfl) ?_
      exact (show _ = some (A.d (D.int IntKind.i64 0), []) from by kernel_rfl).trans (by rw [kof, if_neg (by rw [h1]; decide), if_neg (by rw [h2]; decide), ← hg, if_pos q1])
    · refine g_imps (by kernel_rfl) ?_
      refine g_need (c := (!(x.p && true) || decide (0 ≤ x.i)) && ((!(x.p && true) || decide (x.i < (l.length : Int))) && ((!(x.p && at_ l x.i != 46 && true) || decide (0 ≤ x.i)) && (!(x.p && at_ l x.i != 46 && true) || decide (x.i < (l.length : Int)))))) (by kernel_rfl) (by cases x.p <;> simp <;> omega) ?_
      refine g_done (by kernel_rfl) ?_
      exact g_again (by kernel_rfl) ({ i := IntKind.i64.wrap (x.i + 1), p := x.p && at_ l x.i != 46 && at_ l x.i != 45 : KfL }) (by rw [if_neg (by rw [q1]; decide)] at hg; simp only []; rw [w64 (by omega) (by omega)]; exact ⟨by omega, by omega, hg⟩) (by simp only []; rw [w64 (by omega) (by omega)]; omega) (le_mk (by kernel_rfl))
  simp only [decide_eq_false_iff_not] at h3
  rw [List.drop_of_length_le (by omega), kGo] at hg
  have hk : kof l = if words.any (· == l) then 2 else if x.p && (decide (at_ l 0 < 48) || decide (at_ l 0 > 57)) then 1 else if nof l > 0 then 3 else if (dparse l).isSome then 4 else 0 := by
    rw [kof, if_neg (by rw [h1]; decide), if_neg (by rw [h2]; decide), ← hg]
  refine g_done (by kernel_rfl) ?_
  refine g_leave (by kernel_rfl) ?_
  refine g_call (by kernel_rfl) (Po.words_runs) ?_
  refine g_lp (by kernel_rfl) (fun z : KfW => mkSt 75 [(0, tx l), (3, bo x.p), (45, .d (.sl 26 1 fun i _ => .str (ofL (words.getD i [])))), (46, i64 26), (47, i64 z.i)] []) (fun z => 0 ≤ z.i ∧ z.i ≤ 26 ∧ (words.drop z.i.toNat).any (· == l) = words.any (· == l)) (fun z => (26 - z.i).toNat) ⟨0⟩ (le_mk (by kernel_rfl)) ⟨by simp, by simp, rfl⟩ ?_
  rintro z ⟨hz0, hz1, hz⟩
  have hw : ∀ h : z.i < 26, z.i < (words.length : Int) := fun h => h
  have he : ∀ h : ¬ z.i < 26, words.any (· == l) = false := fun h => by rw [← hz, List.drop_of_length_le (by show 26 ≤ _; omega)]; rfl
  refine g_cbr (b := decide (z.i < 26)) (by kernel_rfl) (fun q1 => ?_) (fun q1 => ?_)
  · refine g_need (c := decide (0 ≤ z.i) && decide (z.i < (↑26 : Int))) (by kernel_rfl) (by simp at q1; simp; omega) ?_
    refine g_cbr (b := (words.getD z.i.toNat []) == l) (by kernel_rfl) (fun q2 => ?_) (fun q2 => ?_)
    · refine g_done (by kernel_rfl) ?_
      refine g_leave (by kernel_rfl) ?_
      refine g_done (by kernel_rfl) ?_
      exact (show _ = some (A.d (D.int IntKind.i64 2), []) from by kernel_rfl).trans (by simp at q1; rw [any_at hz0 (hw q1), q2] at hz; rw [hk, ← hz]; rfl)
    · refine g_done (by kernel_rfl) ?_
      exact g_again (by kernel_rfl) ({ i := IntKind.i64.wrap (z.i + 1) : KfW }) (by simp at q1; rw [any_at hz0 (hw q1), q2, Bool.false_or] at hz; simp only []; rw [w64 (by omega) (by omega)]; exact ⟨by omega, by omega, hz⟩) (by simp at q1; simp only []; rw [w64 (by omega) (by omega)]; omega) (le_mk (by kernel_rfl))
  · refine g_done (by kernel_rfl) ?_
    refine g_leave (by kernel_rfl) ?_
    refine g_imps (by kernel_rfl) ?_
    refine g_need (c := (!(x.p && true) || decide (0 ≤ 0)) && ((!(x.p && true) || decide (0 < (l.length : Int))) && ((!(!decide (at_ l 0 < 48) && (x.p && true)) || decide (0 ≤ 0)) && (!(!decide (at_ l 0 < 48) && (x.p && true)) || decide (0 < (l.length : Int)))))) (by kernel_rfl) (by simp; omega) ?_
    refine g_cbr (b := x.p && (decide (at_ l 0 < 48) || decide (at_ l 0 > 57))) (by kernel_rfl) (fun q2 => ?_) (fun q2 => ?_)
    · refine g_done (by kernel_rfl) ?_
      exact (show _ = some (A.d (D.int IntKind.i64 1), []) from by kernel_rfl).trans (by simp only [decide_eq_false_iff_not] at q1; rw [hk, he q1, if_neg (by decide), if_pos q2])
    · refine g_call (by kernel_rfl) (Po.nof_runs (l) (by first | assumption | omega | simp_all)) ?_
      refine g_cbr (b := decide (nof l > 0)) (by kernel_rfl) (fun q3 => ?_) (fun q3 => ?_)
      · refine g_done (by kernel_rfl) ?_
        exact (show _ = some (A.d (D.int IntKind.i64 3), []) from by kernel_rfl).trans (by simp only [decide_eq_false_iff_not] at q1; rw [hk, he q1, if_neg (by decide), if_neg (by rw [q2]; decide), if_pos (by simpa using q3)])
      · refine g_call (by kernel_rfl) (Po.dparse_runs (l)) ?_
        refine g_cbr (b := (dparse l).isSome) (by kernel_rfl) (fun q4 => ?_) (fun q4 => ?_)
        · refine g_done (by kernel_rfl) ?_
          exact (show _ = some (A.d (D.int IntKind.i64 4), []) from by kernel_rfl).trans (by simp only [decide_eq_false_iff_not] at q1; rw [hk, he q1, if_neg (by decide), if_neg (by rw [q2]; decide), if_neg (by simpa using q3), if_pos q4])
        · refine g_done (by kernel_rfl) ?_
          exact (show _ = some (A.d (D.int IntKind.i64 0), []) from by kernel_rfl).trans (by simp only [decide_eq_false_iff_not] at q1; rw [hk, he q1, if_neg (by decide), if_neg (by rw [q2]; decide), if_neg (by simpa using q3), if_neg (by rw [q4]; decide)])
end Po
