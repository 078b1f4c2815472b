/- A text's tokens: step by step. -/
import Derived.Test.YtggkkkpafealkaaPoS5
import Derived.Test.YtggkkkpafealkaaPoC4
import Derived.Test.YtggkkkpafealkaaProg
open Go Go.Ab Go.Proofs
namespace Po
structure LxL where (line col i : Int) (n : Nat) (f : Nat → Nat → D) (o : List Tok)
structure LxJ where (k : Int) (n : Nat) (f : Nat → Nat → D) (o : List Tok)
theorem kofx_runs (s : Bs) (i j : Nat) (hs : s.length ≤ 8192) : Runs Try.prog 49 [.d (.str ((ofL s).extract i j))] [] (i64 (kof ((s.drop i).take (j - i)))) [] := by
  rw [ofL_extract]
  exact kof_runs _ (by rw [List.length_take, List.length_drop]; omega)
structure LxK where (k : Int)
abbrev lexA (r : LexR) : A := .tup [.d (tokS r.toks), .d (.int .i64 r.err), .d (.int .i64 r.line), .d (.int .i64 r.col)]
abbrev LxL.S (s : Bs) (x : LxL) : St := mkSt 105 [(0, tx s), (6, .own x.n 4 x.f 88), (7, i64 x.line), (8, i64 x.col), (9, i64 x.i)] [(88, .chain x.n)]
def LxL.I (s : Bs) (x : LxL) : Prop := 0 ≤ x.i ∧ x.i ≤ s.length ∧ 1 ≤ x.line ∧ x.line ≤ x.i + 1 ∧ 1 ≤ x.col ∧ x.col ≤ x.i + 1 ∧ x.n = x.o.length ∧ (x.n : Int) ≤ x.i ∧ Rows Tok.d 4 x.f x.o ∧ ∃ m, s.length + 1 ≤ m + x.i.toNat ∧ lexGo m (s.drop x.i.toNat) x.line x.col x.o = lex s
theorem lex_runs (s : Bs) : Runs Try.prog 30 [tx s] [] (lexA (lex s)) [] := by
  refine r_fnL (fn := Try.f30) rfl rfl (by kernel_rfl) ?_
  refine g_cbr (b := decide ((s.length : Int) > 8192)) (by kernel_rfl) (fun h1 => ?_) (fun h1 => ?_)
  · refine g_done (by kernel_rfl) ?_
    exact finLe (show _ = some (A.tup [V.d D.nil, V.d (D.int IntKind.i64 6), V.d (D.int IntKind.i64 1), V.d (D.int IntKind.i64 1)], []) from by kernel_rfl) (by rw [lex, if_pos (by simpa using h1)]; exact resT (.cons nil_le (.cons (V.le_refl _) (.cons (V.le_refl _) (.cons (V.le_refl _) .nil))))) (BsLe.refl _)
  have hs : s.length ≤ 8192 := by simp at h1; omega
  refine g_lp (by kernel_rfl) (LxL.S s) (LxL.I s) (fun x => ((s.length : Int) - x.i).toNat) ⟨1, 1, 0, 0, fun _ _ => .nil, []⟩ (St.le_trans (le_nil 88 6 4 (fun _ _ => .nil) (by kernel_rfl) (by kernel_rfl)) (le_mk (by kernel_rfl))) ⟨by simp, by simp, by simp, by simp, by simp, by simp, rfl, by simp, Rows.none _ _ _, s.length + 1, by simp, by rw [lex, if_neg (by simp at h1; omega)]; rfl⟩ ?_
  rintro ⟨line, col, i, n, f, o⟩ ⟨hi0, hi1, hl0, hl1, hc0, hc1, hn, hni, hf, m, hm, hg⟩
  simp only [] at hi0 hi1 hl0 hl1 hc0 hc1 hn hni hf hm hg
  refine g_cbr (b := decide (i < (s.length : Int))) (by kernel_rfl) (fun h2 => ?_) (fun h2 => ?_)
  · simp only [decide_eq_true_eq] at h2
    obtain ⟨hk1, hk⟩ := tlen_range hi0 h2
    generalize hT : tlen (at_ s i) (s.drop (i + 1).toNat) = T at hk hk1
    obtain ⟨m', rfl⟩ : ∃ m', m = m' + 1 := ⟨m - 1, by omega⟩
    rw [lexGo_at hi0 h2, hT] at hg
    refine g_need (c := decide (0 ≤ i) && decide (i < (s.length : Int))) (by kernel_rfl) (by simp; omega) ?_
    refine g_jf (by kernel_rfl) (fun y : LxJ => mkSt 105 [(0, tx s), (6, .own y.n 4 y.f 88), (7, i64 line), (8, i64 col), (9, i64 i), (10, u8 (at_ s i)), (11, i64 y.k)] [(88, .chain y.n)])
      (fun y => y.k = i + T ∧ y.n = y.o.length ∧ (y.n : Int) ≤ i + 1 ∧ Rows Tok.d 4 y.f y.o ∧ (if at_ s i == 10 then lexGo m' (s.drop (i + T).toNat) (line + 1) 1 y.o else lexGo m' (s.drop (i + T).toNat) line (col + T) y.o) = lex s) ?_ ?_
    · refine g_br (b := at_ s i == 35) (by kernel_rfl) (fun h3 => ?_) (fun h3 => ?_)
      · rw [h3, Bool.true_or, if_pos rfl] at hg
        rw [tlen, if_pos h3] at hT
        refine g_lp (by kernel_rfl) (fun z : LxK => mkSt 105 [(0, tx s), (6, .own n 4 f 88), (7, i64 line), (8, i64 col), (9, i64 i), (10, u8 (at_ s i)), (11, i64 z.k)] [(88, .chain n)]) (fun z => i + 1 ≤ z.k ∧ z.k ≤ s.length ∧ z.k + cnt n10 (s.drop z.k.toNat) = i + T) (fun z => ((s.length : Int) - z.k).toNat) ⟨i + 1⟩ (by rw [← w64 (x := i + 1) (by omega) (by omega)]; exact le_mk (by kernel_rfl)) ⟨by simp, by simp; omega, by simp only []; omega⟩ ?_
        rintro ⟨k⟩ ⟨hk0, hk2, hk3⟩
        simp only [] at hk0 hk2 hk3
        refine g_imps (by kernel_rfl) ?_
        refine g_need (c := (!(decide (k < (s.length : Int)) && true) || decide (0 ≤ k)) && (!(decide (k < (s.length : Int)) && true) || decide (k < (s.length : Int)))) (by kernel_rfl) (by simp; omega) ?_
        refine g_cbr (b := decide (k < (s.length : Int)) && at_ s k != 10) (by kernel_rfl) (fun q1 => ?_) (fun q1 => ?_)
        · refine g_done (by kernel_rfl) ?_
          exact g_again (by kernel_rfl) ({ k := IntKind.i64.wrap (k + 1) : LxK }) (by simp only [Bool.and_eq_true, decide_eq_true_eq] at q1; rw [cnt_at (by omega) q1.1, if_pos (show n10 (at_ s k) = true from q1.2)] at hk3; simp only []; rw [w64 (by omega) (by omega)]; exact ⟨by omega, by omega, by omega⟩) (by simp only [Bool.and_eq_true, decide_eq_true_eq] at q1; simp only []; rw [w64 (by omega) (by omega)]; omega) (le_mk (by kernel_rfl))
        · refine g_done (by kernel_rfl) ?_
          refine g_leave (by kernel_rfl) ?_
          refine g_done (by kernel_rfl) ?_
          exact g_again (by kernel_rfl) ({ k := k, n := n, f := f, o := (o) : LxJ }) (⟨by simp only []; rw [cnt_out (by omega) (fun hl => by rw [decide_eq_true hl, Bool.true_and] at q1; exact q1)] at hk3; omega, hn, by simp only []; omega, hf, hg⟩) (by simp) (le_mk (by kernel_rfl))
      · rw [h3, Bool.false_or] at hg
        rw [tlen, if_neg (by rw [h3]; decide)] at hT
        refine g_imps (by kernel_rfl) ?_
        refine g_br (b := ink (at_ s i)) (by kernel_rfl) (fun h4 => ?_) (fun h4 => ?_)
        · rw [h4, Bool.not_true, if_neg (by decide)] at hg
          rw [h4, Bool.true_and] at hT
          refine g_lp (by kernel_rfl) (fun z : LxK => mkSt 105 [(0, tx s), (6, .own n 4 f 88), (7, i64 line), (8, i64 col), (9, i64 i), (10, u8 (at_ s i)), (11, i64 z.k)] [(88, .chain n)]) (fun z => i + 1 ≤ z.k ∧ z.k ≤ s.length ∧ z.k + (if letter (at_ s i) then cnt letter (s.drop z.k.toNat) else 0) = i + T) (fun z => ((s.length : Int) - z.k).toNat) ⟨i + 1⟩ (by rw [← w64 (x := i + 1) (by omega) (by omega)]; exact le_mk (by kernel_rfl)) ⟨by simp, by simp; omega, by simp only []; rw [← hT]; split <;> omega⟩ ?_
          rintro ⟨k⟩ ⟨hk0, hk2, hk3⟩
          simp only [] at hk0 hk2 hk3
          have hke : (letter (at_ s i) && decide (k < (s.length : Int)) && letter (at_ s k)) = false → k = i + T := fun h => by
            cases hc : letter (at_ s i) with
            | false => rw [hc] at hk3 hT; simp at hk3 hT; omega
            | true =>
              rw [hc, if_pos rfl, cnt_out (by omega) (fun hl => by rw [hc, decide_eq_true hl] at h; simpa using h)] at hk3
              omega
          have hg0 : (kof ((s.drop i.toNat).take T) == 0) = true → lex s = ⟨[], 3, line, col⟩ := fun h => by rw [h] at hg; exact hg.symm
          have hg1 : (kof ((s.drop i.toNat).take T) == 0) = false → (if at_ s i == 10 then lexGo m' (s.drop (i + T).toNat) (line + 1) 1 (o ++ [⟨kof ((s.drop i.toNat).take T), (s.drop i.toNat).take T, line, col⟩]) else lexGo m' (s.drop (i + T).toNat) line (col + T) (o ++ [⟨kof ((s.drop i.toNat).take T), (s.drop i.toNat).take T, line, col⟩])) = lex s := fun h => by rw [h] at hg; exact hg
          refine g_call (by kernel_rfl) (Po.letter_runs (at_ s i)) ?_
          refine g_callG (gs := [letter (at_ s i) && decide (k < (s.length : Int))]) (by kernel_rfl) (fun hg => (Po.letter_runs (at_ s k))) ?_
          refine g_imps (by kernel_rfl) ?_
          refine g_need (c := (!(letter (at_ s i) && decide (k < (s.length : Int)) && true) || decide (0 ≤ k)) && (!(letter (at_ s i) && decide (k < (s.length : Int)) && true) || decide (k < (s.length : Int)))) (by kernel_rfl) (by simp; omega) ?_
          refine g_cbr (b := letter (at_ s i) && decide (k < (s.length : Int)) && letter (at_ s k)) (by kernel_rfl) (fun q1 => ?_) (fun q1 => ?_)
          · refine g_done (by kernel_rfl) ?_
            exact g_again (by kernel_rfl) ({ k := IntKind.i64.wrap (k + 1) : LxK }) (by simp only [Bool.and_eq_true, decide_eq_true_eq] at q1; obtain ⟨⟨ha, hb⟩, hc⟩ := q1; rw [if_pos ha, cnt_at (by omega) hb, if_pos hc] at hk3; simp only []; rw [w64 (by omega) (by omega), if_pos ha]; exact ⟨by omega, by omega, by omega⟩) (by simp only [Bool.and_eq_true, decide_eq_true_eq] at q1; simp only []; rw [w64 (by omega) (by omega)]; omega) (le_mk (by kernel_rfl))
          · refine g_done (by kernel_rfl) ?_
            refine g_leave (by kernel_rfl) ?_
            refine g_call (by kernel_rfl) (Po.kofx_runs (s) (i.toNat) (k.toNat) (by first | assumption | omega | simp_all)) ?_
            refine g_need (c := decide (0 ≤ i) && (decide (i ≤ k) && decide (k ≤ (s.length : Int)))) (by kernel_rfl) (by simp; omega) ?_
            refine g_cbr (b := kof (List.take (k.toNat - i.toNat) (List.drop i.toNat s)) == 0) (by kernel_rfl) (fun q2 => ?_) (fun q2 => ?_)
            · refine g_done (by kernel_rfl) ?_
              refine g_leave (by kernel_rfl) ?_
              refine g_done (by kernel_rfl) ?_
              refine g_leave (by kernel_rfl) ?_
              refine g_done (by kernel_rfl) ?_
              exact finLe (show _ = some (A.tup [V.d D.nil, V.d (D.int IntKind.i64 3), V.d (D.int IntKind.i64 line), V.d (D.int IntKind.i64 col)], []) from by kernel_rfl) (by rw [show k.toNat - i.toNat = T by have := hke q1; omega] at q2; rw [hg0 q2]; exact resT (.cons nil_le (.cons (V.le_refl _) (.cons (V.le_refl _) (.cons (V.le_refl _) .nil))))) (BsLe.refl _)
            · refine g_need (c := decide (0 ≤ i) && (decide (i ≤ k) && (decide (k ≤ (s.length : Int)) && (Nat.beq 4 4 && (decide (n = n) && (decide ((n + 1) * 40 ≤ 140737488355328) && decide (n + 1 ≤ 9223372036854775807))))))) (by kernel_rfl) (by simp; omega) ?_
              refine g_done (by kernel_rfl) ?_
              exact g_again (by kernel_rfl) ({ k := k, n := n + 1, f := apRow n f (oneRow 1 (rowD [D.int IntKind.i64 (kof (List.take (k.toNat - i.toNat) (List.drop i.toNat s))), D.str ((ofL s).extract i.toNat k.toNat), D.int IntKind.i64 line, D.int IntKind.i64 col] 4)), o := (o ++ [⟨kof ((s.drop i.toNat).take T), (s.drop i.toNat).take T, line, col⟩]) : LxJ }) (by have ht : k.toNat - i.toNat = T := (by have := hke q1; omega); rw [ht] at q2; exact ⟨hke q1, by simp [hn], by simp only []; omega, hf.push hn (fun j hj => by rw [ofL_extract, ht]; rcases j with _|_|_|_|j <;> first | rfl | omega), hg1 q2⟩) (by simp) (le_mk (by kernel_rfl))
        · rw [h4] at hg hT
          rw [Bool.not_false, if_pos rfl] at hg
          rw [Bool.false_and, if_neg (by decide)] at hT
          refine g_done (by kernel_rfl) ?_
          exact g_again (by kernel_rfl) ({ k := IntKind.i64.wrap (i + 1), n := n, f := f, o := (o) : LxJ }) (⟨by simp only []; rw [w64 (by omega) (by omega)]; omega, hn, by simp only []; omega, hf, hg⟩) (by simp) (le_mk (by kernel_rfl))
    · rintro ⟨k, n', f', o'⟩ ⟨rfl, hn', hni', hf', hg'⟩
      simp only [] at hn' hni' hf' hg'
      refine g_cbr (b := at_ s i == 10) (by kernel_rfl) (fun q1 => ?_) (fun q1 => ?_)
      · refine g_done (by kernel_rfl) ?_
        exact g_again (by kernel_rfl) ({ line := IntKind.i64.wrap (line + 1), col := 1, i := i + (↑T : Int), n := n', f := f', o := (o') : LxL }) (by rw [if_pos q1] at hg'; simp only [LxL.I]; rw [w64 (by omega) (by omega)]; exact ⟨by omega, by omega, by omega, by omega, by omega, by omega, hn', by omega, hf', m', by omega, hg'⟩) (by simp only []; omega) (le_mk (by kernel_rfl))
      · refine g_done (by kernel_rfl) ?_
        exact g_again (by kernel_rfl) ({ line := line, col := IntKind.i64.wrap (IntKind.i64.wrap (col + (i + (↑T : Int))) - i), i := i + (↑T : Int), n := n', f := f', o := (o') : LxL }) (by rw [if_neg (by rw [q1]; decide)] at hg'; simp only [LxL.I]; rw [w64 (x := col + (i + (T : Int))) (by omega) (by omega), w64 (by omega) (by omega), show col + (i + (T : Int)) - i = col + T by omega]; exact ⟨by omega, by omega, by omega, by omega, by omega, by omega, hn', by omega, hf', m', by omega, hg'⟩) (by simp only []; omega) (le_mk (by kernel_rfl))
  · simp only [decide_eq_false_iff_not] at h2
    refine g_done (by kernel_rfl) ?_
    refine g_leave (by kernel_rfl) ?_
    refine g_need (c := Nat.beq 4 4 && (decide (n = n) && (decide ((n + 1) * 40 ≤ 140737488355328) && decide (n + 1 ≤ 9223372036854775807)))) (by kernel_rfl) (by simp; omega) ?_
    refine g_done (by kernel_rfl) ?_
    exact finLe (show _ = some (A.tup [V.d (D.sl (n + 1) 4 (apRow n f (oneRow 1 (rowD [D.int IntKind.i64 0, D.str (ofL []), D.int IntKind.i64 line, D.int IntKind.i64 col] 4)))), V.d (D.int IntKind.i64 0), V.d (D.int IntKind.i64 0), V.d (D.int IntKind.i64 0)], []) from by kernel_rfl) (by rw [List.drop_of_length_le (by omega)] at hg; obtain ⟨m', rfl⟩ : ∃ m', m = m' + 1 := ⟨m - 1, by omega⟩; rw [lexGo] at hg; rw [← hg]; exact resT (.cons (toks_le (by simp [hn]) (hf.push hn (fun j hj => by rcases j with _|_|_|_|j <;> first | rfl | omega))) (.cons (V.le_refl _) (.cons (V.le_refl _) (.cons (V.le_refl _) .nil))))) (BsLe.refl _)
end Po
