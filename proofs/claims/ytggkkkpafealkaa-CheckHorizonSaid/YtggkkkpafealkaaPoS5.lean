/- What the document's functions compute, in plain words: a text's tokens. -/
import Derived.Test.YtggkkkpafealkaaPoS4
namespace Po
open Go Go.Ab
structure Tok where (k : Int) (t : Bs) (l c : Int)
  deriving DecidableEq
instance : Inhabited Tok := ⟨⟨0, [], 0, 0⟩⟩
def Tok.d (t : Tok) : Nat → D | 0 => .int .i64 t.k | 1 => .str (ofL t.t) | 2 => .int .i64 t.l | 3 => .int .i64 t.c | _ => .nil
def tokS (L : List Tok) : D := .sl L.length 4 fun i => (L.getD i default).d
structure LexR where (toks : List Tok) (err line col : Int)
/-- how many of the first ones are so -/
def cnt (p : Int → Bool) : Bs → Nat | [] => 0 | c :: r => if p c.toNat then cnt p r + 1 else 0
def n10 (c : Int) : Bool := c != 10
def ink (c : Int) : Bool := c != 32 && c != 9 && c != 10 && c != 13
/-- how far a token goes, or what is none -/
def tlen (c : Int) (r : Bs) : Nat := if c == 35 then cnt n10 r + 1 else if ink c && letter c then cnt letter r + 1 else 1
def lexGo : Nat → Bs → Int → Int → List Tok → LexR
  | 0, _, _, _, _ => ⟨[], 0, 0, 0⟩
  | _ + 1, [], line, col, out => ⟨out ++ [⟨0, [], line, col⟩], 0, 0, 0⟩
  | n + 1, c :: r, line, col, out =>
    let ch : Int := c.toNat
    let k := tlen ch r
    let t := (c :: r).take k
    let out' := if ch == 35 || !ink ch then some out else if kof t == 0 then none else some (out ++ [⟨kof t, t, line, col⟩])
    match out' with
    | none => ⟨[], 3, line, col⟩
    | some o => if ch == 10 then lexGo n ((c :: r).drop k) (line + 1) 1 o else lexGo n ((c :: r).drop k) line (col + k) o
def lex (s : Bs) : LexR := if (s.length : Int) > 8192 then ⟨[], 6, 1, 1⟩ else lexGo (s.length + 1) s 1 1 []
theorem cnt_le (p : Int → Bool) : ∀ l : Bs, cnt p l ≤ l.length
  | [] => by simp [cnt]
  | c :: r => by unfold cnt; split <;> simp [cnt_le p r]
theorem cnt_at {p : Int → Bool} {l : Bs} {i : Int} (h0 : 0 ≤ i) (h : i < l.length) : cnt p (l.drop i.toNat) = if p (at_ l i) then cnt p (l.drop (i + 1).toNat) + 1 else 0 := by
  obtain ⟨c, r, e1, e2, e3⟩ := at_drop h0 h
  rw [e1, cnt, e2, e3]
theorem cnt_out {p : Int → Bool} {l : Bs} {k : Int} (h0 : 0 ≤ k) (h : k < l.length → p (at_ l k) = false) : cnt p (l.drop k.toNat) = 0 := by
  by_cases hk : k < l.length
  · rw [cnt_at h0 hk, h hk]; rfl
  · rw [List.drop_of_length_le (by omega)]; rfl
theorem toks_le {n : Nat} {f : Nat → Nat → D} {l : List Tok} (hn : n = l.length) (h : Rows Tok.d 4 f l) : V.le (.d (.sl n 4 f)) (.d (tokS l)) := by
  subst hn; exact slV_le (h.getD default)
theorem lexGo_at {s : Bs} {i line col : Int} {m : Nat} {o : List Tok} (h0 : 0 ≤ i) (h : i < s.length) : lexGo (m + 1) (s.drop i.toNat) line col o =
    match (if at_ s i == 35 || !ink (at_ s i) then some o else if kof ((s.drop i.toNat).take (tlen (at_ s i) (s.drop (i + 1).toNat))) == 0 then none
      else some (o ++ [⟨kof ((s.drop i.toNat).take (tlen (at_ s i) (s.drop (i + 1).toNat))), (s.drop i.toNat).take (tlen (at_ s i) (s.drop (i + 1).toNat)), line, col⟩])) with
    | none => ⟨[], 3, line, col⟩
    | some o => if at_ s i == 10 then lexGo m (s.drop (i + tlen (at_ s i) (s.drop (i + 1).toNat)).toNat) (line + 1) 1 o else lexGo m (s.drop (i + tlen (at_ s i) (s.drop (i + 1).toNat)).toNat) line (col + tlen (at_ s i) (s.drop (i + 1).toNat)) o := by
  have e0 : ∀ k : Nat, s.drop (i + k).toNat = (s.drop i.toNat).drop k := fun k => by rw [List.drop_drop]; congr 1; omega
  rw [e0]
  obtain ⟨c, r, e1, e2, e3⟩ := at_drop h0 h
  rw [e1, e2, e3, lexGo]
theorem tlen_range {s : Bs} {i : Int} (h0 : 0 ≤ i) (h : i < s.length) : 1 ≤ tlen (at_ s i) (s.drop (i + 1).toNat) ∧ i + tlen (at_ s i) (s.drop (i + 1).toNat) ≤ s.length := by
  have h1 := cnt_le n10 (s.drop (i + 1).toNat)
  have h2 := cnt_le letter (s.drop (i + 1).toNat)
  rw [List.length_drop] at h1 h2
  unfold tlen; split
  · omega
  · split <;> omega
end Po
