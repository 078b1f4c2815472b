/- Days of a number, days of a text: step by step. -/
import Derived.Test.YtggkkkpafealkaaPoS2
import Derived.Test.YtggkkkpafealkaaPoC1
import Derived.Test.YtggkkkpafealkaaProg
open Go Go.Ab Go.Proofs
namespace Po
structure OfL where (n y : Int)
structure OfK where (n m : Int)
theorem ylen_range (y : Int) : 365 ≤ ylen y ∧ ylen y ≤ 366 := by unfold ylen; split <;> omega
theorem of03_runs (n : Int) : Runs Try.prog 9 [i64 n] [] (dres (of03 n)) [] := by
  refine r_fn (fn := Try.f9) rfl rfl (by kernel_rfl) ?_
  refine g_imps (by kernel_rfl) ?_
  refine g_cbr (b := decide (n < 0) || decide (n > 4000000)) (by kernel_rfl) (fun h1 => ?_) (fun h1 => ?_)
  · refine g_done (by kernel_rfl) ?_
    exact (show _ = some (dres none, []) from by kernel_rfl).trans (by rw [of03, if_pos h1])
  have hn : 0 ≤ n ∧ n ≤ 4000000 := by simp at h1; omega
  refine g_lp (by kernel_rfl) (fun x : OfL => mkSt 46 [(0, i64 x.n), (2, .ptr 2 0), (3, bo false), (4, i64 x.y)] [(2, .box [i64 0, i64 0, i64 0])]) (fun x => 0 ≤ x.n ∧ x.n ≤ 4000000 ∧ 1 ≤ x.y ∧ x.y ≤ 10000 ∧ ofY (10000 - x.y).toNat x.y x.n = of03 n) (fun x => (10000 - x.y).toNat) ⟨n, 1⟩ (le_mk (by kernel_rfl)) ⟨hn.1, hn.2, by simp, by simp, by rw [of03, if_neg (by rw [h1]; decide)]; rfl⟩ ?_
  rintro x ⟨hn0, hn1, hy0, hy1, hg⟩
  have hyl := ylen_range x.y
  refine g_cbr (b := decide (x.y ≤ 9999)) (by kernel_rfl) (fun h2 => ?_) (fun h2 => ?_)
  · have hs : (10000 - x.y).toNat = (10000 - (x.y + 1)).toNat + 1 := by simp at h2; omega
    rw [hs, ofY] at hg
    refine g_call (by kernel_rfl) (Po.leap_runs (x.y)) ?_
    refine g_jn (by kernel_rfl) (mkSt 46 [(0, i64 x.n), (2, .ptr 2 0), (3, bo false), (4, i64 x.y), (5, i64 (ylen x.y))] [(2, .box [i64 0, i64 0, i64 0])]) ?_ ?_
    · refine g_br (b := leap x.y) (by kernel_rfl) (fun h3 => ?_) (fun h3 => ?_)
      · rw [show ylen x.y = 366 by rw [ylen, h3]; rfl]
        exact g_done (by kernel_rfl) ⟨by kernel_rfl, le_mk (by kernel_rfl)⟩
      · rw [show ylen x.y = 365 by rw [ylen, h3]; rfl]
        exact g_done (by kernel_rfl) ⟨by kernel_rfl, le_mk (by kernel_rfl)⟩
    refine g_cbr (b := decide (x.n ≥ ylen x.y)) (by kernel_rfl) (fun h3 => ?_) (fun h3 => ?_)
    · refine g_done (by kernel_rfl) ?_
      exact g_again (by kernel_rfl) ({ n := IntKind.i64.wrap (x.n - ylen x.y), y := IntKind.i64.wrap (x.y + 1) : OfL }) (by simp at h2 h3; simp only []; rw [w64 (by omega) (by omega), w64 (by omega) (by omega)]; rw [if_pos h3] at hg; exact ⟨by omega, by omega, by omega, by omega, hg⟩) (by simp at h2; simp only []; rw [w64 (by omega) (by omega)]; omega) (le_mk (by kernel_rfl))
    · simp only [decide_eq_false_iff_not] at h3
      rw [if_neg h3] at hg
      refine g_lp (by kernel_rfl) (fun z : OfK => mkSt 46 [(0, i64 z.n), (2, .ptr 2 0), (3, bo false), (4, i64 x.y), (6, i64 z.m)] [(2, .box [i64 0, i64 0, i64 0])]) (fun z => z.n ≤ x.n ∧ 0 ≤ z.n ∧ 1 ≤ z.m ∧ z.m ≤ 13 ∧ ofM x.y (13 - z.m).toNat z.m z.n = ofM x.y 12 1 x.n) (fun z => (13 - z.m).toNat) ⟨x.n, 1⟩ (le_mk (by kernel_rfl)) ⟨by simp, hn0, by simp, by simp, rfl⟩ ?_
      rintro z ⟨hz0, hz1, hm0, hm1, hz⟩
      have hd := days_range x.y z.m
      refine g_cbr (b := decide (z.m ≤ 12)) (by kernel_rfl) (fun q1 => ?_) (fun q1 => ?_)
      · refine g_call (by kernel_rfl) (Po.days_runs (x.y) (z.m)) ?_
        refine g_cbr (b := decide (z.n < days x.y z.m)) (by kernel_rfl) (fun q2 => ?_) (fun q2 => ?_)
        · refine g_done (by kernel_rfl) ?_
          refine g_leave (by kernel_rfl) ?_
          refine g_done (by kernel_rfl) ?_
          refine g_leave (by kernel_rfl) ?_
          refine g_done (by kernel_rfl) ?_
          exact (show _ = some (A.tup [V.agg [D.int IntKind.i64 x.y, D.int IntKind.i64 z.m, D.int IntKind.i64 (IntKind.i64.wrap (z.n + 1))], V.d (D.bool true)], []) from by kernel_rfl).trans (by simp at q1 q2; rw [← hg, ← hz, show (13 - z.m).toNat = (13 - (z.m + 1)).toNat + 1 by omega, ofM, if_pos q2, w64 (by omega) (by omega)]; rfl)
        · refine g_call (by kernel_rfl) (Po.days_runs (x.y) (z.m)) ?_
          refine g_done (by kernel_rfl) ?_
          exact g_again (by kernel_rfl) ({ n := IntKind.i64.wrap (z.n - days x.y z.m), m := IntKind.i64.wrap (z.m + 1) : OfK }) (by simp at q1 q2; simp only []; rw [w64 (by omega) (by omega), w64 (by omega) (by omega)]; refine ⟨by omega, by omega, by omega, by omega, ?_⟩; rw [← hz, show (13 - z.m).toNat = (13 - (z.m + 1)).toNat + 1 by omega, ofM, if_neg (by omega)]) (by simp at q1; simp only []; rw [w64 (by omega) (by omega)]; omega) (le_mk (by kernel_rfl))
      · refine g_done (by kernel_rfl) ?_
        refine g_leave (by kernel_rfl) ?_
        refine g_done (by kernel_rfl) ?_
        exact g_again (by kernel_rfl) ({ n := z.n, y := IntKind.i64.wrap (x.y + 1) : OfL }) (by simp at q1 h2; simp only []; rw [w64 (by omega) (by omega)]; refine ⟨by omega, by omega, by omega, by omega, ?_⟩; rw [← hg, ← hz, show (13 - z.m).toNat = 0 by omega]; rfl) (by simp at h2; simp only []; rw [w64 (by omega) (by omega)]; omega) (le_mk (by kernel_rfl))
  · refine g_done (by kernel_rfl) ?_
    refine g_leave (by kernel_rfl) ?_
    refine g_done (by kernel_rfl) ?_
    exact (show _ = some (A.tup [V.agg [D.int IntKind.i64 0, D.int IntKind.i64 0, D.int IntKind.i64 0], V.d (D.bool false)], []) from by kernel_rfl).trans (by simp at h2; rw [← hg, show (10000 - x.y).toNat = 0 by omega]; rfl)
structure DpL where (n i : Int)
theorem pow10 (i : Nat) (h : i ≤ 10) : (10 : Int) ^ i ≤ 10000000000 := by
  rcases i with _|_|_|_|_|_|_|_|_|_|_|i <;> first | omega | (simp; done)
theorem dp_succ {i : Int} {n : Int} {l : Bs} (h0 : 0 ≤ i) (h : i < 10) : dpGo (10 - i).toNat i.toNat n l =
    (if i == 4 || i == 7 then (if at_ l i != 45 then none else dpGo (10 - (i + 1)).toNat (i + 1).toNat n l)
      else if at_ l i < 48 || at_ l i > 57 then none else dpGo (10 - (i + 1)).toNat (i + 1).toNat (10 * n + (at_ l i - 48)) l) := by
  rw [show (10 - i).toNat = (10 - (i + 1)).toNat + 1 by omega, dpGo, show i.toNat + 1 = (i + 1).toNat by omega]
  have e : ∀ j : Nat, (i.toNat == j) = (i == (j : Int)) := fun j => by rw [Bool.eq_iff_iff]; simp; omega
  rw [e, e]; rfl
theorem dparse_runs (l : Bs) : Runs Try.prog 51 [tx l] [] (dres (dparse l)) [] := by
  refine r_fn (fn := Try.f51) rfl rfl (by kernel_rfl) ?_
  refine g_cbr (b := (l.length : Int) != 10) (by kernel_rfl) (fun h1 => ?_) (fun h1 => ?_)
  · refine g_done (by kernel_rfl) ?_
    exact (show _ = some (A.tup [V.agg [D.int IntKind.i64 0, D.int IntKind.i64 0, D.int IntKind.i64 0], V.d (D.bool false)], []) from by kernel_rfl).trans (by rw [dparse, if_pos h1]; rfl)
  have hl : l.length = 10 := by simp at h1; omega
  refine g_lp (by kernel_rfl) (fun x : DpL => mkSt 58 [(0, tx l), (2, .ptr 2 0), (3, bo false), (4, i64 x.n), (5, i64 x.i)] [(2, .box [i64 0, i64 0, i64 0])]) (fun x => 0 ≤ x.i ∧ x.i ≤ 10 ∧ 0 ≤ x.n ∧ x.n < 10 ^ x.i.toNat ∧ dpGo (10 - x.i).toNat x.i.toNat x.n l = dpGo 10 0 0 l) (fun x => (10 - x.i).toNat) ⟨0, 0⟩ (le_mk (by kernel_rfl)) ⟨by simp, by simp, by simp, by simp, rfl⟩ ?_
  rintro x ⟨hi0, hi1, hn0, hn1, hg⟩
  have hp := pow10 x.i.toNat (by omega)
  refine g_cbr (b := decide (x.i < 10)) (by kernel_rfl) (fun q1 => ?_) (fun q1 => ?_)
  · refine g_imps (by kernel_rfl) ?_
    refine g_cbr (b := x.i == 4 || x.i == 7) (by kernel_rfl) (fun q2 => ?_) (fun q2 => ?_)
    · refine g_need (c := decide (0 ≤ x.i) && decide (x.i < (l.length : Int))) (by kernel_rfl) (by simp at q1; simp [size_ofL, hl]; omega) ?_
      refine g_cbr (b := at_ l x.i != 45) (by kernel_rfl) (fun q3 => ?_) (fun q3 => ?_)
      · refine g_done (by kernel_rfl) ?_
        refine g_leave (by kernel_rfl) ?_
        refine g_done (by kernel_rfl) ?_
        exact (show _ = some (A.tup [V.agg [D.int IntKind.i64 0, D.int IntKind.i64 0, D.int IntKind.i64 0], V.d (D.bool false)], []) from by kernel_rfl).trans (by simp at q1; rw [dparse, if_neg (by rw [h1]; decide), ← hg, dp_succ hi0 q1, if_pos q2, if_pos (show (at_ l x.i != 45) = true from q3)]; rfl)
      · refine g_done (by kernel_rfl) ?_
        exact g_again (by kernel_rfl) ({ n := x.n, i := IntKind.i64.wrap (x.i + 1) : DpL }) (by simp at q1; rw [dp_succ hi0 q1, if_pos q2, if_neg (by rw [show (at_ l x.i != 45) = false from q3]; decide)] at hg; simp only []; rw [w64 (by omega) (by omega)]; refine ⟨by omega, by omega, hn0, ?_, hg⟩; rw [show (x.i + 1).toNat = x.i.toNat + 1 by omega, Int.pow_succ]; omega) (by simp at q1; simp only []; rw [w64 (by omega) (by omega)]; omega) (le_mk (by kernel_rfl))
    · refine g_imps (by kernel_rfl) ?_
      refine g_need (c := decide (0 ≤ x.i) && (decide (x.i < (l.length : Int)) && ((!(!decide (at_ l x.i < 48) && true) || decide (0 ≤ x.i)) && (!(!decide (at_ l x.i < 48) && true) || decide (x.i < (l.length : Int)))))) (by kernel_rfl) (by simp at q1; simp [size_ofL, hl]; omega) ?_
      refine g_cbr (b := decide (at_ l x.i < 48) || decide (at_ l x.i > 57)) (by kernel_rfl) (fun q3 => ?_) (fun q3 => ?_)
      · refine g_done (by kernel_rfl) ?_
        refine g_leave (by kernel_rfl) ?_
        refine g_done (by kernel_rfl) ?_
        exact (show _ = some (A.tup [V.agg [D.int IntKind.i64 0, D.int IntKind.i64 0, D.int IntKind.i64 0], V.d (D.bool false)], []) from by kernel_rfl).trans (by simp at q1; rw [dparse, if_neg (by rw [h1]; decide), ← hg, dp_succ hi0 q1, if_neg (by rw [q2]; decide), if_pos (show (decide (at_ l x.i < 48) || decide (at_ l x.i > 57)) = true from q3)]; rfl)
      · refine g_need (c := decide (0 ≤ x.i) && decide (x.i < (l.length : Int))) (by kernel_rfl) (by simp at q1; simp [size_ofL, hl]; omega) ?_
        refine g_done (by kernel_rfl) ?_
        exact g_again (by kernel_rfl) ({ n := IntKind.i64.wrap (IntKind.i64.wrap (10 * x.n) + IntKind.i64.wrap (IntKind.u8.wrap (at_ l x.i - 48))), i := IntKind.i64.wrap (x.i + 1) : DpL }) (by simp at q1; have h5 : 48 ≤ at_ l x.i ∧ at_ l x.i ≤ 57 := (by have h6 : (decide (at_ l x.i < 48) || decide (at_ l x.i > 57)) = false := q3; simp at h6; omega); rw [dp_succ hi0 q1, if_neg (by rw [q2]; decide), if_neg (by rw [show (decide (at_ l x.i < 48) || decide (at_ l x.i > 57)) = false from q3]; decide)] at hg; simp only [byteAt_ofL]; rw [w64 (x := x.i + 1) (by omega) (by omega), wu8 (by omega) (by omega), w64 (x := at_ l x.i - 48) (by omega) (by omega), w64 (x := 10 * x.n) (by omega) (by omega), w64 (by omega) (by omega)]; refine ⟨by omega, by omega, by omega, ?_, hg⟩; rw [show (x.i + 1).toNat = x.i.toNat + 1 by omega, Int.pow_succ]; omega) (by simp at q1; simp only []; rw [w64 (by omega) (by omega)]; omega) (le_mk (by kernel_rfl))
  · refine g_done (by kernel_rfl) ?_
    refine g_leave (by kernel_rfl) ?_
    refine g_call (by kernel_rfl) (Po.good_runs (IntKind.i64.wrap (x.n.tdiv 10000)) ((IntKind.i64.wrap (x.n.tdiv 100)).tmod 100) (x.n.tmod 100)) ?_
    refine g_cbr (b := !good (IntKind.i64.wrap (x.n.tdiv 10000)) ((IntKind.i64.wrap (x.n.tdiv 100)).tmod 100) (x.n.tmod 100)) (by kernel_rfl) (fun q2 => ?_) (fun q2 => ?_)
    · refine g_done (by kernel_rfl) ?_
      exact (show _ = some (A.tup [V.agg [D.int IntKind.i64 0, D.int IntKind.i64 0, D.int IntKind.i64 0], V.d (D.bool false)], []) from by kernel_rfl).trans (by simp at q1 q2; rw [dparse, if_neg (by rw [h1]; decide), ← hg, show (10 - x.i).toNat = 0 by omega, dpGo]; simp only []; rw [wtd (by omega) (by omega) (by omega), wtd (by omega) (by omega) (by omega)] at q2; rw [if_neg (by rw [q2]; decide)]; rfl)
    · refine g_done (by kernel_rfl) ?_
      exact (show _ = some (A.tup [V.agg [D.int IntKind.i64 (IntKind.i64.wrap (x.n.tdiv 10000)), D.int IntKind.i64 ((IntKind.i64.wrap (x.n.tdiv 100)).tmod 100), D.int IntKind.i64 (x.n.tmod 100)], V.d (D.bool true)], []) from by kernel_rfl).trans (by simp at q1 q2; rw [dparse, if_neg (by rw [h1]; decide), ← hg, show (10 - x.i).toNat = 0 by omega, dpGo]; simp only []; rw [wtd (by omega) (by omega) (by omega), wtd (by omega) (by omega) (by omega)] at q2 ⊢; rw [if_pos q2]; rfl)
end Po
