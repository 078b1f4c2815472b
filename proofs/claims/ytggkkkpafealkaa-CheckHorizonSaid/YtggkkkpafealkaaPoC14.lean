/- The law: a horizon. -/
import Derived.Test.YtggkkkpafealkaaPoS16
import Derived.Test.YtggkkkpafealkaaPoC13
import Derived.Test.YtggkkkpafealkaaProg
open Go Go.Ab Go.Proofs
namespace Po
def dtx (x : Dt) : Bs := dtext x.y x.m x.d
theorem ofh_runs (f t : Dt) (hf : dgood f = true) (ht : dgood t = true) : Runs Try.prog 6 [.d (.str (ofL [112, 108, 97, 110, 32, 112, 32, 99, 117, 114, 114, 101, 110, 99, 121, 32, 99, 59, 10, 32, 104, 111, 114, 105, 122, 111, 110, 32] ++ ofL (dtx f) ++ ofL [32] ++ ofL (dtx t) ++ ofL [59]))] []
    (.tup [.agg (pl0 [112] [99] f t 1 1).cs, .d (.bool true)]) [] := by
  have h := of_runs (pre0 ++ (dtx f ++ (32 :: (dtx t ++ [59]))))
  have e1 := parse_days hf ht
  have l : ∀ {x : Dt}, dgood x = true → (dtx x).length = 10 := fun h => by rw [dtx, dtext_eq h]; rfl
  have e2 : ofOk (pre0 ++ (dtx f ++ (32 :: (dtx t ++ [59])))) = true := by
    unfold ofOk
    rw [show parse (pre0 ++ (dtx f ++ (32 :: (dtx t ++ [59])))) = _ from e1]
    simp [l hf, l ht, pre0]
  rw [e2, show parse (pre0 ++ (dtx f ++ (32 :: (dtx t ++ [59])))) = _ from e1] at h
  have e3 : ofL [112, 108, 97, 110, 32, 112, 32, 99, 117, 114, 114, 101, 110, 99, 121, 32, 99, 59, 10, 32, 104, 111, 114, 105, 122, 111, 110, 32] ++ ofL (dtx f) ++ ofL [32] ++ ofL (dtx t) ++ ofL [59] = ofL (pre0 ++ (dtx f ++ (32 :: (dtx t ++ [59])))) := by
    rw [ofL_app, ofL_app, ofL_app, ofL_app]; congr 1; simp [pre0]
  rw [e3]; exact h
theorem horizon_law (a b : Int) : Runs Try.prog 4 [i64 a, i64 b] [] (bo true) [] := by
  refine r_fn (fn := Try.f4) rfl rfl (by kernel_rfl) ?_
  refine g_call (by kernel_rfl) alive_runs ?_
  refine g_cbr (b := false) (by kernel_rfl) (fun h => by cases h) (fun _ => ?_)
  refine g_imps (by kernel_rfl) ?_
  refine g_cbr (b := decide (a < 0) || decide (b < 0) || decide (a > 3652058) || decide (b > 3652058)) (by kernel_rfl) (fun h => ?_) (fun h => ?_)
  · refine g_done (by kernel_rfl) ?_
    kernel_rfl
  have hab : 0 ≤ a ∧ a ≤ 3652058 ∧ 0 ≤ b ∧ b ≤ 3652058 := by simp at h; omega
  obtain ⟨f, f1, f2, f3⟩ := of03_ok hab.1 hab.2.1
  obtain ⟨t, t1, t2, t3⟩ := of03_ok hab.2.2.1 hab.2.2.2
  have ra : Runs Try.prog 9 [i64 a] [] (.tup [.agg f.cs, .d (.bool true)]) [] := by have := of03_runs a; rw [f1] at this; exact this
  have rb : Runs Try.prog 9 [i64 b] [] (.tup [.agg t.cs, .d (.bool true)]) [] := by have := of03_runs b; rw [t1] at this; exact this
  have hs : spanOk f t = decide (a ≤ b) := by rw [spanOk, f2, t2, f3, t3]; rfl
  obtain ⟨e, l, c, hp, hq⟩ : ∃ e l c : Int, Runs Try.prog 7 [.agg (pl0 [112] [99] f t 1 1).cs] [] (flt e l c) [] ∧ (if b < a then e = 5 ∧ l = 1 ∧ c = 1 else if b - a > 3999 then e = 6 ∧ l = 1 ∧ c = 1 else e = 0 ∧ l = 0 ∧ c = 0) := by
    have hp := plan0_runs [112] [99] f t 1 1
    have he : hErr (pl0 [112] [99] f t 1 1) = if b < a then 5 else if b - a > 3999 then 6 else 0 := by
      show (match !spanOk f t with | true => (5 : Int) | false => (match decide (dnum t - dnum f ≥ 4000) with | true => (6 : Int) | false => 0)) = _
      rw [hs, f3, t3]
      by_cases h1 : b < a
      · rw [if_pos h1, show decide (a ≤ b) = false by simp; omega]; rfl
      · rw [if_neg h1, show decide (a ≤ b) = true by simp; omega]
        by_cases h2 : b - a > 3999
        · rw [if_pos h2, show decide (b - a ≥ 4000) = true by simp; omega]; rfl
        · rw [if_neg h2, show decide (b - a ≥ 4000) = false by simp; omega]; rfl
    rw [he] at hp
    by_cases h1 : b < a
    · rw [if_pos h1] at hp; refine ⟨5, 1, 1, hp, ?_⟩; rw [if_pos h1]; exact ⟨rfl, rfl, rfl⟩
    · rw [if_neg h1] at hp
      by_cases h2 : b - a > 3999
      · rw [if_pos h2] at hp; refine ⟨6, 1, 1, hp, ?_⟩; rw [if_neg h1, if_pos h2]; exact ⟨rfl, rfl, rfl⟩
      · rw [if_neg h2] at hp; refine ⟨0, 0, 0, hp, ?_⟩; rw [if_neg h1, if_neg h2]; exact ⟨rfl, rfl, rfl⟩
  have lf : (dtx f).length = 10 := by rw [dtx, dtext_eq f2]; rfl
  have lt : (dtx t).length = 10 := by rw [dtx, dtext_eq t2]; rfl
  refine g_call (by kernel_rfl) ra ?_
  refine g_call (by kernel_rfl) rb ?_
  refine g_call (by kernel_rfl) (text_runs f.y f.m f.d) ?_
  refine g_call (by kernel_rfl) (text_runs t.y t.m t.d) ?_
  refine g_call (by kernel_rfl) (ofh_runs f t f2 t2) ?_
  have lf' : (ofL (dtext f.y f.m f.d)).size = 10 := lf
  have lt' : (ofL (dtext t.y t.m t.d)).size = 10 := lt
  refine g_need (c := decide ((ofL [112, 108, 97, 110, 32, 112, 32, 99, 117, 114, 114, 101, 110, 99, 121, 32, 99, 59, 10, 32, 104, 111, 114, 105, 122, 111, 110, 32]).size + (ofL (dtext f.y f.m f.d)).size ≤ 9223372036854775807) && (decide (((ofL [112, 108, 97, 110, 32, 112, 32, 99, 117, 114, 114, 101, 110, 99, 121, 32, 99, 59, 10, 32, 104, 111, 114, 105, 122, 111, 110, 32]) ++ ofL (dtext f.y f.m f.d)).size + (ofL [32]).size ≤ 9223372036854775807) && (decide (((ofL [112, 108, 97, 110, 32, 112, 32, 99, 117, 114, 114, 101, 110, 99, 121, 32, 99, 59, 10, 32, 104, 111, 114, 105, 122, 111, 110, 32]) ++ ofL (dtext f.y f.m f.d) ++ (ofL [32])).size + (ofL (dtext t.y t.m t.d)).size ≤ 9223372036854775807) && decide (((ofL [112, 108, 97, 110, 32, 112, 32, 99, 117, 114, 114, 101, 110, 99, 121, 32, 99, 59, 10, 32, 104, 111, 114, 105, 122, 111, 110, 32]) ++ ofL (dtext f.y f.m f.d) ++ (ofL [32]) ++ ofL (dtext t.y t.m t.d)).size + (ofL [59]).size ≤ 9223372036854775807)))) (by kernel_rfl) (by simp only [ByteArray.size_append]; rw [lf', lt']; decide) ?_
  refine g_cbr (b := false) (by kernel_rfl) (fun h => by cases h) (fun _ => ?_)
  refine g_call (by kernel_rfl) hp ?_
  refine g_cbr (b := decide (b < a)) (by kernel_rfl) (fun q1 => ?_) (fun q1 => ?_)
  · refine g_done (by kernel_rfl) ?_
    exact (show _ = some (A.d (D.bool (e == 5 && (l == 1 && (c == 1 && true)))), []) from by kernel_rfl).trans (by rw [decide_eq_true_eq] at q1; rw [if_pos q1] at hq; obtain ⟨rfl, rfl, rfl⟩ := hq; rfl)
  · refine g_cbr (b := decide (IntKind.i64.wrap (b - a) > 3999)) (by kernel_rfl) (fun q2 => ?_) (fun q2 => ?_)
    · refine g_done (by kernel_rfl) ?_
      exact (show _ = some (A.d (D.bool (e == 6 && (l == 1 && (c == 1 && true)))), []) from by kernel_rfl).trans (by rw [decide_eq_false_iff_not] at q1; rw [decide_eq_true_eq, w64 (by omega) (by omega)] at q2; rw [if_neg q1, if_pos q2] at hq; obtain ⟨rfl, rfl, rfl⟩ := hq; rfl)
    · refine g_done (by kernel_rfl) ?_
      exact (show _ = some (A.d (D.bool (e == 0 && (l == 0 && (c == 0 && true)))), []) from by kernel_rfl).trans (by rw [decide_eq_false_iff_not] at q1; rw [decide_eq_false_iff_not, w64 (by omega) (by omega)] at q2; rw [if_neg q1, if_neg q2] at hq; obtain ⟨rfl, rfl, rfl⟩ := hq; rfl)
end Po
