/- Numbers of texts: step by step. -/
import Derived.Test.YtggkkkpafealkaaPoS7
import Derived.Test.YtggkkkpafealkaaPoC6
import Derived.Test.YtggkkkpafealkaaProg
open Go Go.Ab Go.Proofs
namespace Po
theorem more_runs (n d : Int) (ok : Bool) : Runs Try.prog 70 [i64 n, i64 d, bo ok] [] (.tup [.d (.int .i64 (more n d ok).1), .d (.bool (more n d ok).2)]) [] := by
  refine r_fn (fn := Try.f70) rfl rfl (by kernel_rfl) ?_
  refine g_call (by kernel_rfl) (wmul_runs n 10) ?_
  refine g_call (by kernel_rfl) (wof_runs d) ?_
  refine g_call (by kernel_rfl) (wadd_runs (wMul n 10) (wOf d)) ?_
  refine g_call (by kernel_rfl) (wint_runs (wAdd (wMul n 10) (wOf d))) ?_
  refine g_imps (by kernel_rfl) ?_
  refine g_cbr (b := !ok || !(wInt (wAdd (wMul n 10) (wOf d))).snd) (by kernel_rfl) (fun q1 => ?_) (fun q1 => ?_)
  · refine g_done (by kernel_rfl) ?_
    exact (show _ = some (A.tup [V.d (D.int IntKind.i64 0), V.d (D.bool false)], []) from by kernel_rfl).trans (by rw [more, if_pos q1])
  · refine g_done (by kernel_rfl) ?_
    exact (show _ = some (A.tup [V.d (D.int IntKind.i64 (wInt (wAdd (wMul n 10) (wOf d))).fst), V.d (D.bool true)], []) from by kernel_rfl).trans (by rw [more, if_neg (by rw [q1]; decide)])
structure NpL where (i b n : Int) (ok : Bool)
structure NpP where (k n : Int) (ok : Bool)
theorem nparse_runs (l : Bs) (places most : Int) (hl : l.length ≤ 1000000) : Runs Try.prog 52 [tx l, i64 places, i64 most] [] (.tup [.d (.int .i64 (nparse l places most).1), .d (.int .i64 (nparse l places most).2)]) [] := by
  refine r_fn (fn := Try.f52) rfl rfl (by kernel_rfl) ?_
  refine g_call (by kernel_rfl) (nof_runs l hl) ?_
  refine g_imps (by kernel_rfl) ?_
  refine g_cbr (b := nof l == 0 || decide (places < 0) || decide (places > 9)) (by kernel_rfl) (fun h1 => ?_) (fun h1 => ?_)
  · refine g_done (by kernel_rfl) ?_
    exact (show _ = some (A.tup [V.d (D.int IntKind.i64 0), V.d (D.int IntKind.i64 1)], []) from by kernel_rfl).trans (by rw [nparse, if_pos h1])
  have hpl : 0 ≤ places ∧ places ≤ 9 := by simp at h1; omega
  have hn : nparse l places most = if (npGo l (-1) (0, true)).1 > places then (0, 1) else
      if !(npPad (places - (if (0 : Int) > (npGo l (-1) (0, true)).1 then 0 else (npGo l (-1) (0, true)).1)).toNat (npGo l (-1) (0, true)).2).2 || decide ((npPad (places - (if (0 : Int) > (npGo l (-1) (0, true)).1 then 0 else (npGo l (-1) (0, true)).1)).toNat (npGo l (-1) (0, true)).2).1 > most) then (0, 2)
      else ((npPad (places - (if (0 : Int) > (npGo l (-1) (0, true)).1 then 0 else (npGo l (-1) (0, true)).1)).toNat (npGo l (-1) (0, true)).2).1, 0) := by
    rw [nparse, if_neg (by rw [h1]; decide)]
  refine g_lp (by kernel_rfl) (fun x : NpL => mkSt 73 [(0, tx l), (1, i64 places), (2, i64 most), (8, i64 x.b), (9, i64 x.n), (10, bo x.ok), (11, i64 x.i)] []) (fun x => 0 ≤ x.i ∧ x.i ≤ l.length ∧ -1 ≤ x.b ∧ x.b ≤ x.i ∧ npGo (l.drop x.i.toNat) x.b (x.n, x.ok) = npGo l (-1) (0, true)) (fun x => ((l.length : Int) - x.i).toNat) ⟨0, -1, 0, true⟩ (le_mk (by kernel_rfl)) ⟨by simp, by simp, by simp, by simp, rfl⟩ ?_
  rintro ⟨i, b, n, ok⟩ ⟨hi0, hi1, hb0, hb1, hg⟩
  simp only [] at hi0 hi1 hb0 hb1 hg
  refine g_cbr (b := decide (i < (l.length : Int))) (by kernel_rfl) (fun h2 => ?_) (fun h2 => ?_)
  · simp only [decide_eq_true_eq] at h2
    rw [npGo_at hi0 h2] at hg
    refine g_need (c := decide (0 ≤ i) && decide (i < (l.length : Int))) (by kernel_rfl) (by simp; omega) ?_
    refine g_cbr (b := at_ l i == 46) (by kernel_rfl) (fun q1 => ?_) (fun q1 => ?_)
    · refine g_done (by kernel_rfl) ?_
      exact g_again (by kernel_rfl) ({ i := IntKind.i64.wrap (i + 1), b := 0, n := n, ok := ok : NpL }) (by rw [if_pos q1] at hg; simp only []; rw [w64 (by omega) (by omega)]; exact ⟨by omega, by omega, by omega, by omega, hg⟩) (by simp only []; rw [w64 (by omega) (by omega)]; omega) (le_mk (by kernel_rfl))
    · refine g_cbr (b := decide (b ≥ 0)) (by kernel_rfl) (fun q2 => ?_) (fun q2 => ?_)
      · refine g_call (by kernel_rfl) (Po.more_runs (n) (IntKind.i64.wrap (IntKind.u8.wrap (at_ l i - 48))) (ok)) ?_
        refine g_need (c := decide (0 ≤ i) && decide (i < (l.length : Int))) (by kernel_rfl) (by simp; omega) ?_
        refine g_done (by kernel_rfl) ?_
        exact g_again (by kernel_rfl) ({ i := IntKind.i64.wrap (i + 1), b := IntKind.i64.wrap (b + 1), n := (more n (IntKind.i64.wrap (IntKind.u8.wrap (at_ l i - 48))) ok).fst, ok := (more n (IntKind.i64.wrap (IntKind.u8.wrap (at_ l i - 48))) ok).snd : NpL }) (by rw [if_neg (by rw [q1]; decide), if_pos (by simpa using q2)] at hg; simp at q2; simp only []; rw [w64 (x := i + 1) (by omega) (by omega), w64 (x := b + 1) (by omega) (by omega)]; exact ⟨by omega, by omega, by omega, by omega, hg⟩) (by simp only []; rw [w64 (by omega) (by omega)]; omega) (le_mk (by kernel_rfl))
      · refine g_call (by kernel_rfl) (Po.more_runs (n) (IntKind.i64.wrap (IntKind.u8.wrap (at_ l i - 48))) (ok)) ?_
        refine g_need (c := decide (0 ≤ i) && decide (i < (l.length : Int))) (by kernel_rfl) (by simp; omega) ?_
        refine g_done (by kernel_rfl) ?_
        exact g_again (by kernel_rfl) ({ i := IntKind.i64.wrap (i + 1), b := b, n := (more n (IntKind.i64.wrap (IntKind.u8.wrap (at_ l i - 48))) ok).fst, ok := (more n (IntKind.i64.wrap (IntKind.u8.wrap (at_ l i - 48))) ok).snd : NpL }) (by rw [if_neg (by rw [q1]; decide), if_neg (by simpa using q2)] at hg; simp only []; rw [w64 (x := i + 1) (by omega) (by omega)]; exact ⟨by omega, by omega, by omega, by omega, hg⟩) (by simp only []; rw [w64 (by omega) (by omega)]; omega) (le_mk (by kernel_rfl))
  simp only [decide_eq_false_iff_not] at h2
  rw [List.drop_of_length_le (by omega), npGo] at hg
  rw [← hg] at hn
  refine g_done (by kernel_rfl) ?_
  refine g_leave (by kernel_rfl) ?_
  refine g_cbr (b := decide (b > places)) (by kernel_rfl) (fun h3 => ?_) (fun h3 => ?_)
  · refine g_done (by kernel_rfl) ?_
    exact (show _ = some (A.tup [V.d (D.int IntKind.i64 0), V.d (D.int IntKind.i64 1)], []) from by kernel_rfl).trans (by rw [hn, if_pos (by simpa using h3)])
  simp only [decide_eq_false_iff_not] at h3
  rw [if_neg h3] at hn
  refine g_lp (by kernel_rfl) (fun z : NpP => mkSt 73 [(1, i64 places), (2, i64 most), (9, i64 z.n), (10, bo z.ok), (12, i64 z.k)] []) (fun z => 0 ≤ z.k ∧ z.k ≤ places ∧ npPad (places - z.k).toNat (z.n, z.ok) = npPad (places - (if (0 : Int) > b then 0 else b)).toNat (n, ok)) (fun z => (places - z.k).toNat) ⟨if (0 : Int) > b then 0 else b, n, ok⟩ (le_mk (by kernel_rfl)) ⟨by simp only []; split <;> omega, by simp only []; split <;> omega, rfl⟩ ?_
  rintro ⟨k, n', ok'⟩ ⟨hk0, hk1, hk⟩
  simp only [] at hk0 hk1 hk
  refine g_cbr (b := decide (k < places)) (by kernel_rfl) (fun q1 => ?_) (fun q1 => ?_)
  · refine g_call (by kernel_rfl) (Po.more_runs (n') (0) (ok')) ?_
    refine g_done (by kernel_rfl) ?_
    exact g_again (by kernel_rfl) ({ k := IntKind.i64.wrap (k + 1), n := (more n' 0 ok').fst, ok := (more n' 0 ok').snd : NpP }) (by simp at q1; simp only []; rw [w64 (by omega) (by omega)]; refine ⟨by omega, by omega, ?_⟩; rw [← hk, show (places - k).toNat = (places - (k + 1)).toNat + 1 by omega]; rfl) (by simp at q1; simp only []; rw [w64 (by omega) (by omega)]; omega) (le_mk (by kernel_rfl))
  · refine g_done (by kernel_rfl) ?_
    refine g_leave (by kernel_rfl) ?_
    refine g_imps (by kernel_rfl) ?_
    refine g_cbr (b := !ok' || decide (n' > most)) (by kernel_rfl) (fun q2 => ?_) (fun q2 => ?_)
    · refine g_done (by kernel_rfl) ?_
      exact (show _ = some (A.tup [V.d (D.int IntKind.i64 0), V.d (D.int IntKind.i64 2)], []) from by kernel_rfl).trans (by simp at q1; rw [show (places - k).toNat = 0 by omega, npPad] at hk; rw [hn, ← hk, if_pos q2])
    · refine g_done (by kernel_rfl) ?_
      exact (show _ = some (A.tup [V.d (D.int IntKind.i64 n'), V.d (D.int IntKind.i64 0)], []) from by kernel_rfl).trans (by simp at q1; rw [show (places - k).toNat = 0 by omega, npPad] at hk; rw [hn, ← hk, if_neg (by rw [q2]; decide)])
end Po
