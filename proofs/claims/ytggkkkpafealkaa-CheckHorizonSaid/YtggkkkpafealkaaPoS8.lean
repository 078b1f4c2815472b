/- What the document's functions compute, in plain words: the parser's small steps. -/
import Derived.Test.YtggkkkpafealkaaPoS7
namespace Po
open Go Go.Ab
structure Ps where (i err line col : Int)
def Ps.b (p : Ps) (L : List Tok) : List D := [tokS L, .int .i64 p.i, .int .i64 p.err, .int .i64 p.line, .int .i64 p.col]
def tk (L : List Tok) (p : Ps) : Tok := L.getD p.i.toNat default
def Lok (L : List Tok) : Prop := L.length ≤ 10000 ∧ ∀ i : Nat, i < L.length → (L.getD i default).t.length ≤ 8192 ∧ ((L.getD i default).k ≠ 0 → i + 1 < L.length)
def Pok (L : List Tok) (p : Ps) : Prop := Lok L ∧ 0 ≤ p.i ∧ p.i < L.length
def Ps.up (p : Ps) : Ps := { p with i := p.i + 1 }
def on (L : List Tok) (p : Ps) (s : Bs) : Bool := (p.err == 0 && ((tk L p).k == 2 || (tk L p).k == 5)) && (tk L p).t == s
def takeP (L : List Tok) (p : Ps) (s : Bs) : Ps := match on L p s with | true => p.up | false => p
def wrongP (L : List Tok) (p : Ps) (e : Int) : Ps := match p.err == 0 with | true => { p with err := e, line := (tk L p).l, col := (tk L p).c } | false => p
def wantP (L : List Tok) (p : Ps) (s : Bs) : Ps := match on L p s with | true => takeP L p s | false => wrongP L (takeP L p s) 4
def isTok (L : List Tok) (p : Ps) (k : Int) : Bool := !(p.err != 0 || (tk L p).k != k)
def tokenV (L : List Tok) (p : Ps) (k : Int) : Bs := match isTok L p k with | true => (tk L p).t | false => []
def tokenP (L : List Tok) (p : Ps) (k : Int) : Ps := match isTok L p k with | true => p.up | false => wrongP L p 4
def numberV (L : List Tok) (p : Ps) (a b : Int) : Int := match isTok L p 3 with | true => (nparse (tk L p).t a b).1 | false => 0
def numberQ (L : List Tok) (p : Ps) (v : Int) : Ps := match v == 1 with | true => wrongP L p 4 | false => (match v == 2 with | true => wrongP L p 6 | false => p)
def numberP (L : List Tok) (p : Ps) (a b : Int) : Ps := match isTok L p 3 with | true => (numberQ L p (nparse (tk L p).t a b).2).up | false => wrongP L p 4
theorem tk_eq (L : List Tok) (p : Ps) : L.getD p.i.toNat default = tk L p := rfl
theorem Pok.up {L : List Tok} {p : Ps} (h : Pok L p) (hk : (tk L p).k ≠ 0) : Pok L p.up := by
  obtain ⟨h1, h2, h3⟩ := h
  refine ⟨h1, by show 0 ≤ p.i + 1; omega, ?_⟩
  have := (h1.2 p.i.toNat (by omega)).2 hk
  show p.i + 1 < L.length; omega
theorem on_k {L : List Tok} {p : Ps} {s : Bs} (h : on L p s = true) : (tk L p).k ≠ 0 := by
  unfold on at h
  simp only [Bool.and_eq_true, Bool.or_eq_true, beq_iff_eq] at h
  omega
theorem Pok.take {L : List Tok} {p : Ps} {s : Bs} (h : Pok L p) : Pok L (takeP L p s) := by
  unfold takeP; split
  · rename_i ho; exact h.up (on_k ho)
  · exact h
theorem Pok.wrong {L : List Tok} {p : Ps} {e : Int} (h : Pok L p) : Pok L (wrongP L p e) := by
  unfold wrongP; split <;> exact h
theorem Pok.want {L : List Tok} {p : Ps} {s : Bs} (h : Pok L p) : Pok L (wantP L p s) := by
  unfold wantP; split
  · exact h.take
  · exact h.take.wrong
theorem isTok_k {L : List Tok} {p : Ps} {k : Int} (h : isTok L p k = true) : (tk L p).k = k := by
  unfold isTok at h; simp at h; exact h.2
theorem Pok.token {L : List Tok} {p : Ps} {k : Int} (h : Pok L p) (hk : k ≠ 0) : Pok L (tokenP L p k) := by
  unfold tokenP; split
  · rename_i ho; exact h.up (by rw [isTok_k ho]; exact hk)
  · exact h.wrong
theorem wrong_i {L : List Tok} {p : Ps} {e : Int} : (wrongP L p e).i = p.i := by unfold wrongP; split <;> rfl
theorem Pok.numQ {L : List Tok} {p : Ps} {v : Int} (h : Pok L p) : Pok L (numberQ L p v) := by
  unfold numberQ; split
  · exact h.wrong
  · split
    · exact h.wrong
    · exact h
theorem numQ_i {L : List Tok} {p : Ps} {v : Int} : (numberQ L p v).i = p.i := by
  unfold numberQ; split
  · exact wrong_i
  · split
    · exact wrong_i
    · rfl
theorem Pok.number {L : List Tok} {p : Ps} {a b : Int} (h : Pok L p) : Pok L (numberP L p a b) := by
  unfold numberP; split
  · rename_i ho
    refine h.numQ.up ?_
    rw [tk, numQ_i, tk_eq, isTok_k ho]; decide
  · exact h.wrong
end Po
