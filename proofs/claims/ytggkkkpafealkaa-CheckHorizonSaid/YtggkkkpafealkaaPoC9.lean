/- The parser's greater steps. -/
import Derived.Test.YtggkkkpafealkaaPoS9
import Derived.Test.YtggkkkpafealkaaPoC8
import Derived.Test.YtggkkkpafealkaaProg
open Go Go.Ab Go.Proofs
namespace Po
theorem day_runs (L : List Tok) (p : Ps) (h : Pok L p) : Runs Try.prog 33 [pp0] [p.b L] (.agg (dayV L p).cs) [(dayP L p).b L] := by
  refine r_fn (fn := Try.f33) rfl rfl (by kernel_rfl) ?_
  refine g_call (by kernel_rfl) (Po.token_runs (L) (p) (4) (h) (by decide)) ?_
  refine g_call (by kernel_rfl) (Po.dparse_runs (tokenV L p 4)) ?_
  refine g_done (by kernel_rfl) ?_
  kernel_rfl
theorem window_runs (L : List Tok) (p : Ps) (h : Pok L p) : Runs Try.prog 36 [pp0] [p.b L] (.agg (windowV L p).cs) [(windowP L p).b L] := by
  refine r_fn (fn := Try.f36) rfl rfl (by kernel_rfl) ?_
  refine g_call (by kernel_rfl) (Po.take_runs (L) (p) ([102, 114, 111, 109]) (by repeat' (first | assumption | apply Pok.take | apply Pok.want | apply Pok.day | apply Pok.wrong | apply Pok.number | apply Pok.one | apply Pok.window | apply Pok.mode | refine Pok.token ?_ (by decide)))) ?_
  refine g_cbr (b := !on L p [102, 114, 111, 109]) (by kernel_rfl) (fun q1 => ?_) (fun q1 => ?_)
  · refine g_done (by kernel_rfl) ?_
    exact (show _ = some (A.agg [D.bool false, D.int IntKind.i64 0, D.int IntKind.i64 0, D.int IntKind.i64 0, D.int IntKind.i64 0, D.int IntKind.i64 0, D.int IntKind.i64 0], [[D.sl L.length 4 fun i => (L.getD i default).d, D.int IntKind.i64 (takeP L p [102, 114, 111, 109]).i, D.int IntKind.i64 (takeP L p [102, 114, 111, 109]).err, D.int IntKind.i64 (takeP L p [102, 114, 111, 109]).line, D.int IntKind.i64 (takeP L p [102, 114, 111, 109]).col]]) from by kernel_rfl).trans (by have q : on L p bFrom = false := (Bool.not_eq_true' _).mp q1; rw [windowV, windowP, q, show takeP L p [102, 114, 111, 109] = takeP L p bFrom from rfl, takeP, q]; rfl)
  · refine g_call (by kernel_rfl) (Po.day_runs (L) (takeP L p [102, 114, 111, 109]) (by repeat' (first | assumption | apply Pok.take | apply Pok.want | apply Pok.day | apply Pok.wrong | apply Pok.number | apply Pok.one | apply Pok.window | apply Pok.mode | refine Pok.token ?_ (by decide)))) ?_
    refine g_call (by kernel_rfl) (Po.want_runs (L) (dayP L (takeP L p [102, 114, 111, 109])) ([116, 111]) (by repeat' (first | assumption | apply Pok.take | apply Pok.want | apply Pok.day | apply Pok.wrong | apply Pok.number | apply Pok.one | apply Pok.window | apply Pok.mode | refine Pok.token ?_ (by decide)))) ?_
    refine g_call (by kernel_rfl) (Po.day_runs (L) (wantP L (dayP L (takeP L p [102, 114, 111, 109])) [116, 111]) (by repeat' (first | assumption | apply Pok.take | apply Pok.want | apply Pok.day | apply Pok.wrong | apply Pok.number | apply Pok.one | apply Pok.window | apply Pok.mode | refine Pok.token ?_ (by decide)))) ?_
    refine g_done (by kernel_rfl) ?_
    exact (show _ = some (A.agg [D.bool true, D.int IntKind.i64 (dayV L (takeP L p [102, 114, 111, 109])).y, D.int IntKind.i64 (dayV L (takeP L p [102, 114, 111, 109])).m, D.int IntKind.i64 (dayV L (takeP L p [102, 114, 111, 109])).d, D.int IntKind.i64 (dayV L (wantP L (dayP L (takeP L p [102, 114, 111, 109])) [116, 111])).y, D.int IntKind.i64 (dayV L (wantP L (dayP L (takeP L p [102, 114, 111, 109])) [116, 111])).m, D.int IntKind.i64 (dayV L (wantP L (dayP L (takeP L p [102, 114, 111, 109])) [116, 111])).d], [[D.sl L.length 4 fun i => (L.getD i default).d, D.int IntKind.i64 (dayP L (wantP L (dayP L (takeP L p [102, 114, 111, 109])) [116, 111])).i, D.int IntKind.i64 (dayP L (wantP L (dayP L (takeP L p [102, 114, 111, 109])) [116, 111])).err, D.int IntKind.i64 (dayP L (wantP L (dayP L (takeP L p [102, 114, 111, 109])) [116, 111])).line, D.int IntKind.i64 (dayP L (wantP L (dayP L (takeP L p [102, 114, 111, 109])) [116, 111])).col]]) from by kernel_rfl).trans (by have q : on L p bFrom = true := (Bool.not_eq_false' _).mp q1; rw [windowV, windowP, q]; rfl)
structure OnL where (i : Int) (q : Ps)
theorem one_runs (L : List Tok) (p : Ps) (ws : List Bs) (h : Pok L p) (hw : ws.length ≤ 100) : Runs Try.prog 34 [pp0, .d (.sl ws.length 1 fun i _ => .str (ofL (ws.getD i [])))] [p.b L] (i64 (oneV L p 0 ws)) [(oneP L p ws).b L] := by
  refine r_fn (fn := Try.f34) rfl rfl (by kernel_rfl) ?_
  refine g_lp (by kernel_rfl) (fun x : OnL => mkSt 19 [(0, .ptr (pk 0) 0), (7, .d (.sl ws.length 1 fun i _ => .str (ofL (ws.getD i [])))), (8, i64 ws.length), (9, i64 x.i)] [(pk 0, .box [.d (tokS L), i64 x.q.i, i64 x.q.err, i64 x.q.line, i64 x.q.col])]) (fun x => x.q = p ∧ 0 ≤ x.i ∧ x.i ≤ ws.length ∧ oneV L p x.i (ws.drop x.i.toNat) = oneV L p 0 ws ∧ oneP L p (ws.drop x.i.toNat) = oneP L p ws) (fun x => ((ws.length : Int) - x.i).toNat) ⟨0, p⟩ (le_mk (by kernel_rfl)) ⟨rfl, by simp, by simp, rfl, rfl⟩ ?_
  rintro ⟨i, p'⟩ ⟨rfl, hi0, hi1, hg, hg'⟩
  simp only [] at hi0 hi1 hg hg' h
  refine g_cbr (b := decide (i < (↑ws.length : Int))) (by kernel_rfl) (fun q1 => ?_) (fun q1 => ?_)
  · refine g_need (c := decide (0 ≤ i) && decide (i < (↑ws.length : Int))) (by kernel_rfl) (by simp at q1; simp; omega) ?_
    refine g_call (by kernel_rfl) (Po.take_runs (L) (p') (ws.getD i.toNat []) (h)) ?_
    refine g_cbr (b := on L p' (ws.getD i.toNat [])) (by kernel_rfl) (fun q2 => ?_) (fun q2 => ?_)
    · refine g_done (by kernel_rfl) ?_
      refine g_leave (by kernel_rfl) ?_
      refine g_done (by kernel_rfl) ?_
      exact (show _ = some (A.d (D.int IntKind.i64 i), [[D.sl L.length 4 fun i => (L.getD i default).d, D.int IntKind.i64 (takeP L p' (ws.getD i.toNat [])).i, D.int IntKind.i64 (takeP L p' (ws.getD i.toNat [])).err, D.int IntKind.i64 (takeP L p' (ws.getD i.toNat [])).line, D.int IntKind.i64 (takeP L p' (ws.getD i.toNat [])).col]]) from by kernel_rfl).trans (by simp at q1; obtain ⟨e1, e2⟩ := one_drop (L := L) (p := p') hi0 q1; rw [q2] at e1 e2; rw [← hg, ← hg', e1, e2]; rfl)
    · refine g_done (by kernel_rfl) ?_
      exact g_again (by kernel_rfl) ({ i := IntKind.i64.wrap (i + 1), q := takeP L p' (ws.getD i.toNat []) : OnL }) (by simp at q1; obtain ⟨e1, e2⟩ := one_drop (L := L) (p := p') hi0 q1; rw [q2] at e1 e2; simp only []; rw [w64 (by omega) (by omega)]; exact ⟨by rw [takeP, q2], by omega, by omega, e1.symm.trans hg, e2.symm.trans hg'⟩) (by simp at q1; simp only []; rw [w64 (by omega) (by omega)]; omega) (le_mk (by kernel_rfl))
  · refine g_done (by kernel_rfl) ?_
    refine g_leave (by kernel_rfl) ?_
    refine g_done (by kernel_rfl) ?_
    exact (show _ = some (A.d (D.int IntKind.i64 (-1)), [[D.sl L.length 4 fun i => (L.getD i default).d, D.int IntKind.i64 p'.i, D.int IntKind.i64 p'.err, D.int IntKind.i64 p'.line, D.int IntKind.i64 p'.col]]) from by kernel_rfl).trans (by simp at q1; rw [← hg, ← hg', List.drop_of_length_le (by omega)]; rfl)
theorem lits_le {cs : List D} {ws : List Bs} (hc : cs = ws.map fun w => .str (ofL w)) : A.le (.d (.sl ws.length 1 (rowD cs 1))) (.d (.sl ws.length 1 fun i _ => .str (ofL (ws.getD i [])))) := by
  subst hc
  refine sl_le fun i hi j hj => ?_
  obtain rfl : j = 0 := by omega
  show (ws.map fun w => D.str (ofL w)).getD (i * 1 + 0) .nil = _
  simp [hi]
theorem one_lits (L : List Tok) (p : Ps) (cs : List D) (n : Nat) (ws : List Bs) (h : Pok L p) (hw : ws.length ≤ 100) (hn : n = ws.length) (hc : cs = ws.map fun w => .str (ofL w)) : Runs Try.prog 34 [pp0, .d (.sl n 1 (rowD cs 1))] [p.b L] (i64 (oneV L p 0 ws)) [(oneP L p ws).b L] := by
  subst hn
  refine (one_runs L p ws h hw).arg rfl (fun t => ?_) (BsLe.refl _)
  match t with
  | 0 => exact A.le_refl _
  | 1 => exact lits_le hc
  | _ + 2 => exact A.le_refl _
theorem mode_runs (L : List Tok) (p : Ps) (h : Pok L p) : Runs Try.prog 53 [pp0] [p.b L] (i64 (modeV L p)) [(modeP L p).b L] := by
  refine r_fn (fn := Try.f53) rfl rfl (by kernel_rfl) ?_
  refine g_call (by kernel_rfl) (one_lits L p (wModes.map fun w => .str (ofL w)) 4 wModes h (by decide) rfl rfl) ?_
  refine g_cbr (b := decide (oneV L p 0 wModes < 0)) (by kernel_rfl) (fun q1 => ?_) (fun q1 => ?_)
  · refine g_call (by kernel_rfl) (Po.wrong_runs (L) (oneP L p wModes) (4) (by repeat' (first | assumption | apply Pok.take | apply Pok.want | apply Pok.day | apply Pok.wrong | apply Pok.number | apply Pok.one | apply Pok.window | apply Pok.mode | refine Pok.token ?_ (by decide)))) ?_
    refine g_done (by kernel_rfl) ?_
    exact (show _ = some (A.d (D.int IntKind.i64 (if 0 > oneV L p 0 wModes then 0 else oneV L p 0 wModes)), [[D.sl L.length 4 fun i => (L.getD i default).d, D.int IntKind.i64 (wrongP L (oneP L p wModes) 4).i, D.int IntKind.i64 (wrongP L (oneP L p wModes) 4).err, D.int IntKind.i64 (wrongP L (oneP L p wModes) 4).line, D.int IntKind.i64 (wrongP L (oneP L p wModes) 4).col]]) from by kernel_rfl).trans (by rw [modeP, q1]; rfl)
  · refine g_done (by kernel_rfl) ?_
    exact (show _ = some (A.d (D.int IntKind.i64 (if 0 > oneV L p 0 wModes then 0 else oneV L p 0 wModes)), [[D.sl L.length 4 fun i => (L.getD i default).d, D.int IntKind.i64 (oneP L p wModes).i, D.int IntKind.i64 (oneP L p wModes).err, D.int IntKind.i64 (oneP L p wModes).line, D.int IntKind.i64 (oneP L p wModes).col]]) from by kernel_rfl).trans (by rw [modeP, q1]; rfl)
end Po
