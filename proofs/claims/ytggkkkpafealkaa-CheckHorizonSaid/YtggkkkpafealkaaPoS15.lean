/- The plain law of a day's text: it is read back. -/
import Derived.Test.YtggkkkpafealkaaPoS14
namespace Po
open Go Go.Ab
theorem dig_val {n : Int} (h : 0 ≤ n) : ((dig n).toNat : Int) = 48 + n % 10 := by
  unfold dig
  rw [Int.tmod_eq_emod_of_nonneg h, w64 (by omega) (by omega), wu8 (by omega) (by omega)]
  have : (48 + n % 10).toNat < 256 := by omega
  rw [UInt8.toNat_ofNat']
  omega
theorem dstep {k i : Nat} {n d : Int} {l : Bs} (hi : (i == 4 || i == 7) = false) (hc : ((l.getD i 0).toNat : Int) = 48 + d) (h0 : 0 ≤ d) (h9 : d ≤ 9) : dpGo (k + 1) i n l = dpGo k (i + 1) (10 * n + d) l := by
  rw [dpGo]; simp only [hi, hc]
  rw [if_neg (by decide), if_neg (by simp; omega)]
  congr 1; omega
theorem dsep {k i : Nat} {n : Int} {l : Bs} (hi : (i == 4 || i == 7) = true) (hc : ((l.getD i 0).toNat : Int) = 45) : dpGo (k + 1) i n l = dpGo k (i + 1) n l := by
  rw [dpGo]; simp only [hi, hc]
  rw [if_pos trivial, if_neg (by decide)]
theorem kGo_letters : ∀ {w : Bs} {p : Bool}, (∀ c ∈ w, letter c.toNat = true) → kGo w p = some (p && w.all fun c => (c.toNat : Int) != 46 && (c.toNat : Int) != 45)
  | [], p, _ => by simp [kGo]
  | c :: w, p, h => by
    rw [kGo, h c List.mem_cons_self, kGo_letters fun d hd => h d (List.mem_cons_of_mem _ hd)]
    simp [Bool.and_assoc]
theorem nofGo_none : ∀ {w : Bs} {p : Int}, (∃ c ∈ w, ((c.toNat : Int) == 46) = false ∧ digit c.toNat = false) → nofGo w p = none
  | [], _, h => by obtain ⟨c, hc, _⟩ := h; cases hc
  | c :: w, p, h => by
    obtain ⟨d, hd, h1, h2⟩ := h
    rw [nofGo]
    rcases List.mem_cons.1 hd with rfl | hd
    · rw [h1, h2]; rfl
    · split
      · split
        · rfl
        · exact nofGo_none ⟨d, hd, h1, h2⟩
      · split
        · rfl
        · exact nofGo_none ⟨d, hd, h1, h2⟩
theorem words_ten {w : Bs} (h : w.length = 10) : words.any (· == w) = false := by
  have hw : words.all (fun x => x.length != 10) = true := by decide
  rw [List.any_eq_false]
  intro x hx he
  rw [beq_iff_eq] at he
  have := List.all_eq_true.1 hw x hx
  rw [he, h] at this; exact absurd this (by decide)
/-- a row of ten letters with a line in it that is a day is one -/
theorem kof_day {w : Bs} (hw : ∀ c ∈ w, letter c.toNat = true) (h10 : w.length = 10) (h45 : (45 : UInt8) ∈ w) (hd : (dparse w).isSome = true) : kof w = 4 := by
  have e1 : (w == [123] || w == [125] || w == [59]) = false := by
    have : ∀ c : UInt8, (w == [c]) = false := fun c => by
      rw [beq_eq_false_iff_ne]; intro h; rw [h] at h10; simp at h10
    rw [this, this, this]; rfl
  have e2 : (w == []) = false := by rw [beq_eq_false_iff_ne]; intro h; rw [h] at h10; simp at h10
  have e3 : kGo w true = some false := by
    rw [kGo_letters hw, Bool.true_and]
    congr 1
    rw [List.all_eq_false]
    exact ⟨45, h45, by decide⟩
  have e4 : nof w = 0 := by
    unfold nof
    split
    · rfl
    · rw [nofGo_none ⟨45, h45, by decide, by decide⟩]
  unfold kof
  rw [if_neg (by rw [e1]; decide), if_neg (by rw [e2]; decide), e3]
  simp only [words_ten h10, e4, hd]
  rfl
theorem digs4 {y : Int} (h0 : 0 ≤ y) (h1 : y ≤ 9999) : digs 4 y [] = [dig (y / 1000), dig (y / 100), dig (y / 10), dig y] := by
  have e1 : IntKind.i64.wrap (y.tdiv 10) = y / 10 := by rw [Int.tdiv_eq_ediv_of_nonneg h0]; exact w64 (by omega) (by omega)
  have e2 : IntKind.i64.wrap ((y / 10).tdiv 10) = y / 100 := by rw [Int.tdiv_eq_ediv_of_nonneg (by omega), w64 (by omega) (by omega)]; omega
  have e3 : IntKind.i64.wrap ((y / 100).tdiv 10) = y / 1000 := by rw [Int.tdiv_eq_ediv_of_nonneg (by omega), w64 (by omega) (by omega)]; omega
  simp only [digs, e1, e2, e3]
theorem digs2 {m : Int} (h0 : 0 ≤ m) (h1 : m ≤ 99) : digs 2 m [] = [dig (m / 10), dig m] := by
  have e1 : IntKind.i64.wrap (m.tdiv 10) = m / 10 := by rw [Int.tdiv_eq_ediv_of_nonneg h0]; exact w64 (by omega) (by omega)
  simp only [digs, e1]
theorem dtext_eq {x : Dt} (h : dgood x = true) : dtext x.y x.m x.d = [dig (x.y / 1000), dig (x.y / 100), dig (x.y / 10), dig x.y, 45, dig (x.m / 10), dig x.m, 45, dig (x.d / 10), dig x.d] := by
  obtain ⟨h1, h2, h3, h4, h5, h6⟩ := good_iff.1 h
  have hd := days_range x.y x.m
  rw [dtext, if_pos (show good x.y x.m x.d = true from h), digs4 (by omega) h2, digs2 (by omega) (by omega), digs2 (by omega) (by omega)]
  rfl
theorem dtext_parse {x : Dt} (h : dgood x = true) : dparse (dtext x.y x.m x.d) = some x := by
  obtain ⟨h1, h2, h3, h4, h5, h6⟩ := good_iff.1 h
  have hd := days_range x.y x.m
  rw [dtext_eq h]
  have e : dpGo 10 0 0 [dig (x.y / 1000), dig (x.y / 100), dig (x.y / 10), dig x.y, 45, dig (x.m / 10), dig x.m, 45, dig (x.d / 10), dig x.d] = some (x.y * 10000 + x.m * 100 + x.d) := by
    refine Eq.trans (dstep (d := x.y / 1000 % 10) rfl (dig_val (by omega)) (by omega) (by omega)) ?_
    refine Eq.trans (dstep (d := x.y / 100 % 10) rfl (dig_val (by omega)) (by omega) (by omega)) ?_
    refine Eq.trans (dstep (d := x.y / 10 % 10) rfl (dig_val (by omega)) (by omega) (by omega)) ?_
    refine Eq.trans (dstep (d := x.y % 10) rfl (dig_val (by omega)) (by omega) (by omega)) ?_
    refine Eq.trans (dsep rfl rfl) ?_
    refine Eq.trans (dstep (d := x.m / 10 % 10) rfl (dig_val (by omega)) (by omega) (by omega)) ?_
    refine Eq.trans (dstep (d := x.m % 10) rfl (dig_val (by omega)) (by omega) (by omega)) ?_
    refine Eq.trans (dsep rfl rfl) ?_
    refine Eq.trans (dstep (d := x.d / 10 % 10) rfl (dig_val (by omega)) (by omega) (by omega)) ?_
    refine Eq.trans (dstep (d := x.d % 10) rfl (dig_val (by omega)) (by omega) (by omega)) ?_
    rw [dpGo]
    congr 1; omega
  unfold dparse
  rw [if_neg (by simp), e]
  have a1 : (x.y * 10000 + x.m * 100 + x.d).tdiv 10000 = x.y := by rw [Int.tdiv_eq_ediv_of_nonneg (by omega)]; omega
  have a2 : ((x.y * 10000 + x.m * 100 + x.d).tdiv 100).tmod 100 = x.m := by rw [Int.tdiv_eq_ediv_of_nonneg (by omega), Int.tmod_eq_emod_of_nonneg (by omega)]; omega
  have a3 : (x.y * 10000 + x.m * 100 + x.d).tmod 100 = x.d := by rw [Int.tmod_eq_emod_of_nonneg (by omega)]; omega
  simp only [a1, a2, a3]
  rw [if_pos (show good x.y x.m x.d = true from h)]
theorem digit_letter {n : Int} (h : 0 ≤ n) : letter (dig n).toNat = true := by
  rw [dig_val h]; unfold letter; simp; omega
theorem dtext_letters {x : Dt} (h : dgood x = true) : ∀ c ∈ dtext x.y x.m x.d, letter c.toNat = true := by
  obtain ⟨h1, h2, h3, h4, h5, h6⟩ := good_iff.1 h
  rw [dtext_eq h]
  intro c hc
  simp only [List.mem_cons, List.not_mem_nil, or_false] at hc
  rcases hc with rfl | rfl | rfl | rfl | rfl | rfl | rfl | rfl | rfl | rfl <;> first | exact digit_letter (by omega) | decide
/-- a plan of two days, read back -/
theorem parse_days {f t : Dt} (hf : dgood f = true) (ht : dgood t = true) : parse (pre0 ++ (dtext f.y f.m f.d ++ (32 :: (dtext t.y t.m t.d ++ [59])))) = ⟨⟨[112], [99], f, t, [], [], [], 1, 1⟩, 0, 0, 0⟩ := by
  have l : ∀ {x : Dt}, dgood x = true → (dtext x.y x.m x.d).length = 10 := fun h => by rw [dtext_eq h]; rfl
  have k : ∀ {x : Dt}, dgood x = true → kof (dtext x.y x.m x.d) = 4 := fun h => kof_day (dtext_letters h) (l h) (by rw [dtext_eq h]; simp) (by rw [dtext_parse h]; rfl)
  rw [parse_all (dtext_letters hf) (dtext_letters ht) (l hf) (l ht) (k hf) (k ht), dtext_parse hf, dtext_parse ht]
  rfl
end Po
