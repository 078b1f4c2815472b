/- The plain law of a horizon: its text, read back. -/
import Derived.Test.YtggkkkpafealkaaPoS13
import Derived.KernelRfl
namespace Po
open Go Go.Ab
theorem cnt_all {p : Int → Bool} : ∀ {w r : Bs}, (∀ c ∈ w, p c.toNat = true) → (∀ c, r.head? = some c → p c.toNat = false) → cnt p (w ++ r) = w.length
  | [], [], _, _ => rfl
  | [], c :: r, _, h => by show cnt p (c :: r) = 0; unfold cnt; rw [h c rfl]; rfl
  | c :: w, r, h1, h2 => by
    show cnt p (c :: (w ++ r)) = _
    unfold cnt
    rw [h1 c List.mem_cons_self, cnt_all (fun d hd => h1 d (List.mem_cons_of_mem _ hd)) h2]; rfl
theorem letter_facts {c : Int} (h : letter c = true) : (c == 35) = false ∧ ink c = true ∧ (c == 10) = false := by
  unfold letter at h; simp at h
  refine ⟨by simp; omega, by unfold ink; simp; omega, by simp; omega⟩
/-- one token of letters -/
theorem lex_tok {n : Nat} {w r : Bs} {line col : Int} {o : List Tok} (hw : ∀ c ∈ w, letter c.toNat = true) (h0 : w ≠ []) (hr : ∀ c, r.head? = some c → letter c.toNat = false) (hk : (kof w == 0) = false) :
    lexGo (n + 1) (w ++ r) line col o = lexGo n r line (col + w.length) (o ++ [⟨kof w, w, line, col⟩]) := by
  cases w with
  | nil => exact absurd rfl h0
  | cons c w =>
    have hc := hw c List.mem_cons_self
    obtain ⟨f1, f2, f3⟩ := letter_facts hc
    have ht : tlen c.toNat (w ++ r) = (c :: w).length := by
      unfold tlen; rw [f1, f2, hc, cnt_all (fun d hd => hw d (List.mem_cons_of_mem _ hd)) hr]; rfl
    show lexGo (n + 1) (c :: (w ++ r)) line col o = _
    rw [lexGo]
    simp only [ht]
    have e1 : (c :: (w ++ r)).take (c :: w).length = c :: w := by
      show ((c :: w) ++ r).take (c :: w).length = _; exact List.take_left' rfl
    have e2 : (c :: (w ++ r)).drop (c :: w).length = r := by
      show ((c :: w) ++ r).drop (c :: w).length = _; exact List.drop_left' rfl
    rw [e1, e2, f1, f2, hk, f3]
    rfl
def pre0 : Bs := [112, 108, 97, 110, 32, 112, 32, 99, 117, 114, 114, 101, 110, 99, 121, 32, 99, 59, 10, 32, 104, 111, 114, 105, 122, 111, 110, 32]
theorem lex_pre (X : Bs) : lexGo 51 (pre0 ++ X) 1 1 [] = lexGo 39 X 2 10 [⟨2, [112, 108, 97, 110], 1, 1⟩, ⟨1, [112], 1, 6⟩, ⟨2, [99, 117, 114, 114, 101, 110, 99, 121], 1, 8⟩, ⟨1, [99], 1, 17⟩, ⟨5, [59], 1, 18⟩, ⟨2, [104, 111, 114, 105, 122, 111, 110], 2, 2⟩] := by kernel_rfl
theorem lex_sp (X : Bs) (l c : Int) (o : List Tok) : lexGo 38 (32 :: X) l c o = lexGo 37 X l (c + 1) o := by kernel_rfl
theorem lex_end (l c : Int) (o : List Tok) : lexGo 36 [59] l c o = ⟨(o ++ [⟨5, [59], l, c⟩]) ++ [⟨0, [], l, c + 1⟩], 0, 0, 0⟩ := by kernel_rfl
theorem lex_all {w1 w2 : Bs} (a1 : ∀ c ∈ w1, letter c.toNat = true) (a2 : ∀ c ∈ w2, letter c.toNat = true) (l1 : w1.length = 10) (l2 : w2.length = 10) (k1 : kof w1 = 4) (k2 : kof w2 = 4) :
    lex (pre0 ++ (w1 ++ (32 :: (w2 ++ [59])))) = ⟨[⟨2, [112, 108, 97, 110], 1, 1⟩, ⟨1, [112], 1, 6⟩, ⟨2, [99, 117, 114, 114, 101, 110, 99, 121], 1, 8⟩, ⟨1, [99], 1, 17⟩, ⟨5, [59], 1, 18⟩, ⟨2, [104, 111, 114, 105, 122, 111, 110], 2, 2⟩, ⟨4, w1, 2, 10⟩, ⟨4, w2, 2, 21⟩, ⟨5, [59], 2, 31⟩, ⟨0, [], 2, 32⟩], 0, 0, 0⟩ := by
  have hl : (pre0 ++ (w1 ++ (32 :: (w2 ++ [59])))).length = 50 := by simp [l1, l2, pre0]
  rw [lex, hl, if_neg (by decide), lex_pre]
  rw [lex_tok a1 (by rintro rfl; simp at l1) (by simp; decide) (by rw [k1]; decide), lex_sp]
  rw [lex_tok a2 (by rintro rfl; simp at l2) (by simp; decide) (by rw [k2]; decide), lex_end, k1, k2, l1, l2]
  rfl
theorem parse_all {w1 w2 : Bs} (a1 : ∀ c ∈ w1, letter c.toNat = true) (a2 : ∀ c ∈ w2, letter c.toNat = true) (l1 : w1.length = 10) (l2 : w2.length = 10) (k1 : kof w1 = 4) (k2 : kof w2 = 4) :
    parse (pre0 ++ (w1 ++ (32 :: (w2 ++ [59])))) = ⟨⟨[112], [99], dv (dparse w1), dv (dparse w2), [], [], [], 1, 1⟩, 0, 0, 0⟩ := by
  unfold parse
  rw [lex_all a1 a2 l1 l2 k1 k2]
  kernel_rfl
end Po
