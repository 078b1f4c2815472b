/- The parser's small steps. -/
import Derived.Test.YtggkkkpafealkaaPoS8
import Derived.Test.YtggkkkpafealkaaPoC7
import Derived.Test.YtggkkkpafealkaaProg
open Go Go.Ab Go.Proofs
namespace Po
abbrev pp0 : A := .ptr (pk 0) 0
theorem up_b {L : List Tok} {p : Ps} (h : Pok L p) : [tokS L, .int .i64 (IntKind.i64.wrap (p.i + 1)), .int .i64 p.err, .int .i64 p.line, .int .i64 p.col] = p.up.b L := by
  obtain ⟨h1, h2, h3⟩ := h; have := h1.1; rw [w64 (by omega) (by omega)]; rfl
theorem on_runs (L : List Tok) (p : Ps) (s : Bs) (h : Pok L p) : Runs Try.prog 69 [pp0, tx s] [p.b L] (bo (on L p s)) [p.b L] := by
  obtain ⟨h1, h2, h3⟩ := h
  refine r_fn (fn := Try.f69) rfl rfl (by kernel_rfl) ?_
  refine g_need (c := decide (0 ≤ p.i) && decide (p.i < (↑L.length : Int))) (by kernel_rfl) (by simp; omega) ?_
  refine g_imps (by kernel_rfl) ?_
  refine g_done (by kernel_rfl) ?_
  kernel_rfl
theorem take_runs (L : List Tok) (p : Ps) (s : Bs) (h : Pok L p) : Runs Try.prog 50 [pp0, tx s] [p.b L] (bo (on L p s)) [(takeP L p s).b L] := by
  refine r_fn (fn := Try.f50) rfl rfl (by kernel_rfl) ?_
  refine g_call (by kernel_rfl) (Po.on_runs (L) (p) (s) (by first | assumption | omega | simp_all)) ?_
  refine g_cbr (b := on L p s) (by kernel_rfl) (fun q1 => ?_) (fun q1 => ?_)
  · refine g_done (by kernel_rfl) ?_
    exact (show _ = some (A.d (D.bool true), [[D.sl L.length 4 fun i => (L.getD i default).d, D.int IntKind.i64 (IntKind.i64.wrap (p.i + 1)), D.int IntKind.i64 p.err, D.int IntKind.i64 p.line, D.int IntKind.i64 p.col]]) from by kernel_rfl).trans (by rw [takeP, q1]; simp only; rw [← up_b h]; rfl)
  · refine g_done (by kernel_rfl) ?_
    exact (show _ = some (A.d (D.bool false), [[D.sl L.length 4 fun i => (L.getD i default).d, D.int IntKind.i64 p.i, D.int IntKind.i64 p.err, D.int IntKind.i64 p.line, D.int IntKind.i64 p.col]]) from by kernel_rfl).trans (by rw [takeP, q1]; rfl)
theorem wrong_runs (L : List Tok) (p : Ps) (e : Int) (h : Pok L p) : Runs Try.prog 38 [pp0, i64 e] [p.b L] (.tup []) [(wrongP L p e).b L] := by
  obtain ⟨h1, h2, h3⟩ := h
  refine r_fn (fn := Try.f38) rfl rfl (by kernel_rfl) ?_
  refine g_br (b := p.err == 0) (by kernel_rfl) (fun q1 => ?_) (fun q1 => ?_)
  · refine g_need (c := decide (0 ≤ p.i) && decide (p.i < (↑L.length : Int))) (by kernel_rfl) (by simp; omega) ?_
    refine g_need (c := decide (0 ≤ p.i) && decide (p.i < (↑L.length : Int))) (by kernel_rfl) (by simp; omega) ?_
    refine g_done (by kernel_rfl) ?_
    exact (show _ = some (A.tup [], [[D.sl L.length 4 fun i => (L.getD i default).d, D.int IntKind.i64 p.i, D.int IntKind.i64 e, D.int IntKind.i64 (L.getD p.i.toNat default).l, D.int IntKind.i64 (L.getD p.i.toNat default).c]]) from by kernel_rfl).trans (by rw [wrongP, q1]; rfl)
  · refine g_done (by kernel_rfl) ?_
    exact (show _ = some (A.tup [], [[D.sl L.length 4 fun i => (L.getD i default).d, D.int IntKind.i64 p.i, D.int IntKind.i64 p.err, D.int IntKind.i64 p.line, D.int IntKind.i64 p.col]]) from by kernel_rfl).trans (by rw [wrongP, q1]; rfl)
theorem want_runs (L : List Tok) (p : Ps) (s : Bs) (h : Pok L p) : Runs Try.prog 31 [pp0, tx s] [p.b L] (.tup []) [(wantP L p s).b L] := by
  refine r_fn (fn := Try.f31) rfl rfl (by kernel_rfl) ?_
  refine g_call (by kernel_rfl) (Po.take_runs (L) (p) (s) (h)) ?_
  refine g_br (b := !on L p s) (by kernel_rfl) (fun q1 => ?_) (fun q1 => ?_)
  · refine g_call (by kernel_rfl) (Po.wrong_runs (L) (takeP L p s) (4) (h.take)) ?_
    refine g_done (by kernel_rfl) ?_
    exact (show _ = some (A.tup [], [[D.sl L.length 4 fun i => (L.getD i default).d, D.int IntKind.i64 (wrongP L (takeP L p s) 4).i, D.int IntKind.i64 (wrongP L (takeP L p s) 4).err, D.int IntKind.i64 (wrongP L (takeP L p s) 4).line, D.int IntKind.i64 (wrongP L (takeP L p s) 4).col]]) from by kernel_rfl).trans (by simp only [Bool.not_eq_true', Bool.not_eq_false'] at q1; rw [wantP, q1]; rfl)
  · refine g_done (by kernel_rfl) ?_
    exact (show _ = some (A.tup [], [[D.sl L.length 4 fun i => (L.getD i default).d, D.int IntKind.i64 (takeP L p s).i, D.int IntKind.i64 (takeP L p s).err, D.int IntKind.i64 (takeP L p s).line, D.int IntKind.i64 (takeP L p s).col]]) from by kernel_rfl).trans (by simp only [Bool.not_eq_true', Bool.not_eq_false'] at q1; rw [wantP, q1]; rfl)
theorem token_runs (L : List Tok) (p : Ps) (k : Int) (h : Pok L p) (hk : k ≠ 0) : Runs Try.prog 32 [pp0, i64 k] [p.b L] (tx (tokenV L p k)) [(tokenP L p k).b L] := by
  refine r_fn (fn := Try.f32) rfl rfl (by kernel_rfl) ?_
  refine g_need (c := decide (0 ≤ p.i) && decide (p.i < (↑L.length : Int))) (by kernel_rfl) (by have h2 := h.2; simp; omega) ?_
  refine g_imps (by kernel_rfl) ?_
  refine g_cbr (b := p.err != 0 || (L.getD p.i.toNat default).k != k) (by kernel_rfl) (fun q1 => ?_) (fun q1 => ?_)
  · refine g_call (by kernel_rfl) (Po.wrong_runs (L) (p) (4) (h)) ?_
    refine g_done (by kernel_rfl) ?_
    exact (show _ = some (A.d (D.str (ofL [])), [[D.sl L.length 4 fun i => (L.getD i default).d, D.int IntKind.i64 (wrongP L p 4).i, D.int IntKind.i64 (wrongP L p 4).err, D.int IntKind.i64 (wrongP L p 4).line, D.int IntKind.i64 (wrongP L p 4).col]]) from by kernel_rfl).trans (by have q : isTok L p k = false := congrArg (!·) q1; rw [tokenV, tokenP, q]; rfl)
  · refine g_done (by kernel_rfl) ?_
    exact (show _ = some (A.d (D.str (ofL (L.getD p.i.toNat default).t)), [[D.sl L.length 4 fun i => (L.getD i default).d, D.int IntKind.i64 (IntKind.i64.wrap (p.i + 1)), D.int IntKind.i64 p.err, D.int IntKind.i64 p.line, D.int IntKind.i64 p.col]]) from by kernel_rfl).trans (by have q : isTok L p k = true := congrArg (!·) q1; rw [tokenV, tokenP, q]; simp only; rw [← up_b h]; rfl)
theorem number_runs (L : List Tok) (p : Ps) (a b : Int) (h : Pok L p) : Runs Try.prog 35 [pp0, i64 a, i64 b] [p.b L] (i64 (numberV L p a b)) [(numberP L p a b).b L] := by
  refine r_fn (fn := Try.f35) rfl rfl (by kernel_rfl) ?_
  have hl : (L.getD p.i.toNat default).t.length ≤ 1000000 := by have := (h.1.2 p.i.toNat (by have := h.2; omega)).1; omega
  refine g_need (c := decide (0 ≤ p.i) && decide (p.i < (↑L.length : Int))) (by kernel_rfl) (by have h2 := h.2; simp; omega) ?_
  refine g_imps (by kernel_rfl) ?_
  refine g_cbr (b := p.err != 0 || (L.getD p.i.toNat default).k != 3) (by kernel_rfl) (fun q1 => ?_) (fun q1 => ?_)
  · refine g_call (by kernel_rfl) (Po.wrong_runs (L) (p) (4) (h)) ?_
    refine g_done (by kernel_rfl) ?_
    exact (show _ = some (A.d (D.int IntKind.i64 0), [[D.sl L.length 4 fun i => (L.getD i default).d, D.int IntKind.i64 (wrongP L p 4).i, D.int IntKind.i64 (wrongP L p 4).err, D.int IntKind.i64 (wrongP L p 4).line, D.int IntKind.i64 (wrongP L p 4).col]]) from by kernel_rfl).trans (by have q : isTok L p 3 = false := congrArg (!·) q1; rw [numberV, numberP, q]; rfl)
  · refine g_call (by kernel_rfl) (Po.nparse_runs ((L.getD p.i.toNat default).t) (a) (b) (hl)) ?_
    refine g_cbr (b := (nparse (L.getD p.i.toNat default).t a b).snd == 1) (by kernel_rfl) (fun q2 => ?_) (fun q2 => ?_)
    · refine g_call (by kernel_rfl) (Po.wrong_runs (L) (p) (4) (h)) ?_
      refine g_cbr (b := (nparse (L.getD p.i.toNat default).t a b).snd == 2) (by kernel_rfl) (fun q3 => ?_) (fun q3 => ?_)
      · refine g_call (by kernel_rfl) (Po.wrong_runs (L) (wrongP L p 4) (6) (h.wrong)) ?_
        refine g_done (by kernel_rfl) ?_
        exact (show _ = some (A.d (D.int IntKind.i64 (nparse (L.getD p.i.toNat default).t a b).fst), [[D.sl L.length 4 fun i => (L.getD i default).d, D.int IntKind.i64 (IntKind.i64.wrap ((wrongP L (wrongP L p 4) 6).i + 1)), D.int IntKind.i64 (wrongP L (wrongP L p 4) 6).err, D.int IntKind.i64 (wrongP L (wrongP L p 4) 6).line, D.int IntKind.i64 (wrongP L (wrongP L p 4) 6).col]]) from by kernel_rfl).trans (by rw [beq_iff_eq] at q2 q3; omega)
      · refine g_done (by kernel_rfl) ?_
        exact (show _ = some (A.d (D.int IntKind.i64 (nparse (L.getD p.i.toNat default).t a b).fst), [[D.sl L.length 4 fun i => (L.getD i default).d, D.int IntKind.i64 (IntKind.i64.wrap ((wrongP L p 4).i + 1)), D.int IntKind.i64 (wrongP L p 4).err, D.int IntKind.i64 (wrongP L p 4).line, D.int IntKind.i64 (wrongP L p 4).col]]) from by kernel_rfl).trans (by have q : isTok L p 3 = true := congrArg (!·) q1; rw [numberV, numberP, q, numberQ]; simp only [tk_eq] at q2 ⊢; rw [q2]; simp only; rw [← up_b h.wrong]; rfl)
    · refine g_cbr (b := (nparse (L.getD p.i.toNat default).t a b).snd == 2) (by kernel_rfl) (fun q3 => ?_) (fun q3 => ?_)
      · refine g_call (by kernel_rfl) (Po.wrong_runs (L) (p) (6) (h)) ?_
        refine g_done (by kernel_rfl) ?_
        exact (show _ = some (A.d (D.int IntKind.i64 (nparse (L.getD p.i.toNat default).t a b).fst), [[D.sl L.length 4 fun i => (L.getD i default).d, D.int IntKind.i64 (IntKind.i64.wrap ((wrongP L p 6).i + 1)), D.int IntKind.i64 (wrongP L p 6).err, D.int IntKind.i64 (wrongP L p 6).line, D.int IntKind.i64 (wrongP L p 6).col]]) from by kernel_rfl).trans (by have q : isTok L p 3 = true := congrArg (!·) q1; rw [numberV, numberP, q, numberQ]; simp only [tk_eq] at q2 q3 ⊢; rw [q2, q3]; simp only; rw [← up_b h.wrong]; rfl)
      · refine g_done (by kernel_rfl) ?_
        exact (show _ = some (A.d (D.int IntKind.i64 (nparse (L.getD p.i.toNat default).t a b).fst), [[D.sl L.length 4 fun i => (L.getD i default).d, D.int IntKind.i64 (IntKind.i64.wrap (p.i + 1)), D.int IntKind.i64 p.err, D.int IntKind.i64 p.line, D.int IntKind.i64 p.col]]) from by kernel_rfl).trans (by have q : isTok L p 3 = true := congrArg (!·) q1; rw [numberV, numberP, q, numberQ]; simp only [tk_eq] at q2 q3 ⊢; rw [q2, q3]; simp only; rw [← up_b h]; rfl)
end Po
