/- A plan's parsing: step by step. -/
import Derived.Test.YtggkkkpafealkaaPoS11
import Derived.Test.YtggkkkpafealkaaPoC10
import Derived.Test.YtggkkkpafealkaaProg
open Go Go.Ab Go.Proofs
namespace Po
abbrev plM (o : Pl) (m f c : A) : M := .box [tx o.name, tx o.cur, i64 o.f.y, i64 o.f.m, i64 o.f.d, i64 o.t.y, i64 o.t.m, i64 o.t.d, m, f, c, i64 o.line, i64 o.col]
structure PlL where (p : Ps) (o : Pl) (n1 n2 n3 : Nat) (f1 f2 f3 : Nat → Nat → D)
def PlL.I (L : List Tok) (r : Pl × Ps) (B : Pl) (y : PlL) : Prop :=
  Pok L y.p ∧ y.n1 = y.o.meters.length ∧ y.n2 = y.o.fees.length ∧ y.n3 = y.o.charges.length ∧ (y.n1 : Int) ≤ y.p.i ∧ (y.n2 : Int) ≤ y.p.i ∧ (y.n3 : Int) ≤ y.p.i ∧
  Rows Mt.d 5 y.f1 y.o.meters ∧ Rows Fe.d 10 y.f2 y.o.fees ∧ Rows Ch.d 16 y.f3 y.o.charges ∧ y.o = { B with meters := y.o.meters, fees := y.o.fees, charges := y.o.charges } ∧
  ∃ m, 2 * left L y.p + (if y.p.err == 0 then 1 else 0) < m ∧ itemsGo L m y.p y.o = r
abbrev plS (L : List Tok) (p : Ps) (B : Pl) (n1 n2 n3 : Nat) (f1 f2 f3 : Nat → Nat → D) : St := mkSt 177 [(2, .ptr 2 0), (10, .ptr 31 0), (11, .ptr 11 0)]
  [(31, p.m L), (2, plM Pl.z (.d .nil) (.d .nil) (.d .nil)), (11, plM B (.own n1 5 f1 123) (.own n2 10 f2 143) (.own n3 16 f3 156)), (123, .chain n1), (143, .chain n2), (156, .chain n3)]
theorem parse_runs (s : Bs) : Runs Try.prog 12 [tx s] [] (parse s).a [] := by
  refine r_fnL (fn := Try.f12) rfl rfl (by kernel_rfl) ?_
  obtain ⟨L, hL⟩ : ∃ L, (lex s).toks = L := ⟨_, rfl⟩
  have hlex : Runs Try.prog 30 [tx s] [] (.tup [.d (tokS L), .d (.int .i64 (lex s).err), .d (.int .i64 (lex s).line), .d (.int .i64 (lex s).col)]) [] := by rw [← hL]; exact lex_runs s
  refine g_call (by kernel_rfl) hlex ?_
  refine g_cbr (b := (lex s).err != 0) (by kernel_rfl) (fun h1 => ?_) (fun h1 => ?_)
  · refine g_done (by kernel_rfl) ?_
    exact finLe (show _ = some (A.tup [V.agg [D.str (ofL []), D.str (ofL []), D.int IntKind.i64 0, D.int IntKind.i64 0, D.int IntKind.i64 0, D.int IntKind.i64 0, D.int IntKind.i64 0, D.int IntKind.i64 0, D.nil, D.nil, D.nil, D.int IntKind.i64 0, D.int IntKind.i64 0], V.d (D.int IntKind.i64 (lex s).err), V.d (D.int IntKind.i64 (lex s).line), V.d (D.int IntKind.i64 (lex s).col)], []) from by kernel_rfl) (by rw [parse, h1]; exact resT (.cons (aggV_le (.cons (V.le_refl _) (.cons (V.le_refl _) (.cons (V.le_refl _) (.cons (V.le_refl _) (.cons (V.le_refl _) (.cons (V.le_refl _) (.cons (V.le_refl _) (.cons (V.le_refl _) (.cons nil_le (.cons nil_le (.cons nil_le (DsLe.refl _))))))))))))) (.cons (V.le_refl _) (.cons (V.le_refl _) (.cons (V.le_refl _) .nil))))) (BsLe.refl _)
  have hok := lex_ok s (by simpa using h1)
  rw [parse, h1]
  simp only [hL] at hok ⊢
  obtain ⟨hL1, hL2⟩ := hok
  have h0 : Pok L ⟨0, 0, 0, 0⟩ := ⟨hL1, Int.le_refl 0, by show (0 : Int) < L.length; omega⟩
  refine g_need (c := (decide ((0 : Int) ≤ 0) && (decide ((0 : Int) < L.length) && (decide ((0 : Int) ≤ 0) && decide ((0 : Int) < L.length))))) (by kernel_rfl) (by simp; omega) ?_
  refine g_call (by kernel_rfl) (want_runs L ⟨0, 0, 0, 0⟩ bPlan h0) ?_
  have p1 : Pok L (hd1 L) := h0.want
  refine g_call (by kernel_rfl) (token_runs L (hd1 L) 1 p1 (by decide)) ?_
  refine g_call (by kernel_rfl) (want_runs L (tokenP L (hd1 L) 1) bCur (p1.token (by decide))) ?_
  have p2 : Pok L (hd2 L) := (p1.token (by decide)).want
  refine g_call (by kernel_rfl) (token_runs L (hd2 L) 1 p2 (by decide)) ?_
  refine g_call (by kernel_rfl) (want_runs L (tokenP L (hd2 L) 1) bSemi (p2.token (by decide))) ?_
  refine g_call (by kernel_rfl) (want_runs L (wantP L (tokenP L (hd2 L) 1) bSemi) bHor (p2.token (by decide)).want) ?_
  have p3 : Pok L (hd3 L) := (p2.token (by decide)).want.want
  refine g_call (by kernel_rfl) (day_runs L (hd3 L) p3) ?_
  refine g_call (by kernel_rfl) (day_runs L (dayP L (hd3 L)) p3.day) ?_
  refine g_call (by kernel_rfl) (want_runs L (dayP L (dayP L (hd3 L))) bSemi p3.day.day) ?_
  have p4 : Pok L (hd4 L) := p3.day.day.want
  generalize hB : hdV L = B
  generalize hq4 : hd4 L = q4 at p4
  obtain ⟨r, hr⟩ : ∃ r, itemsGo L (2 * L.length + 2) q4 B = r := ⟨_, rfl⟩
  rw [hr]
  refine g_lp (by kernel_rfl) (fun y : PlL => plS L y.p B y.n1 y.n2 y.n3 y.f1 y.f2 y.f3) (PlL.I L r B) (fun y => 2 * left L y.p + (if y.p.err == 0 then 1 else 0)) ⟨q4, B, 0, 0, 0, fun _ _ => .nil, fun _ _ => .nil, fun _ _ => .nil⟩
    (St.le_trans (b := mkSt 177 [(2, .ptr 2 0), (10, .ptr 31 0), (11, .ptr 11 0)] [(31, q4.m L), (2, plM Pl.z (.d .nil) (.d .nil) (.d .nil)), (11, plM B (.d .nil) (.d .nil) (.d .nil))]) (by rw [← hB, ← hq4]; exact le_mk (by kernel_rfl))
      (St.le_trans (le_nilB 123 11 5 (fun _ _ => .nil) [tx B.name, tx B.cur, i64 B.f.y, i64 B.f.m, i64 B.f.d, i64 B.t.y, i64 B.t.m, i64 B.t.d] [.d .nil, .d .nil, i64 B.line, i64 B.col] (by kernel_rfl) (by kernel_rfl))
      (St.le_trans (le_nilB 143 11 10 (fun _ _ => .nil) [tx B.name, tx B.cur, i64 B.f.y, i64 B.f.m, i64 B.f.d, i64 B.t.y, i64 B.t.m, i64 B.t.d, .own 0 5 (fun _ _ => .nil) 123] [.d .nil, i64 B.line, i64 B.col] (by kernel_rfl) (by kernel_rfl))
      (St.le_trans (le_nilB 156 11 16 (fun _ _ => .nil) [tx B.name, tx B.cur, i64 B.f.y, i64 B.f.m, i64 B.f.d, i64 B.t.y, i64 B.t.m, i64 B.t.d, .own 0 5 (fun _ _ => .nil) 123, .own 0 10 (fun _ _ => .nil) 143] [i64 B.line, i64 B.col] (by kernel_rfl) (by kernel_rfl)) (le_mk (by kernel_rfl))))))
    ⟨p4, by rw [← hB]; rfl, by rw [← hB]; rfl, by rw [← hB]; rfl, p4.2.1, p4.2.1, p4.2.1, by rw [← hB]; exact Rows.none _ _ _, by rw [← hB]; exact Rows.none _ _ _, by rw [← hB]; exact Rows.none _ _ _, rfl, 2 * L.length + 2, by have := left_le L q4; simp only []; split <;> omega, hr⟩ ?_
  rintro ⟨q, o, n1, n2, n3, f1, f2, f3⟩ ⟨hq, hn1, hn2, hn3, hb1, hb2, hb3, hf1, hf2, hf3, ho, m, hm, hg⟩
  simp only [] at hq hn1 hn2 hn3 hb1 hb2 hb3 hf1 hf2 hf3 ho hm hg
  have hqi := hq.2
  have hql := hq.1.1
  refine g_imps (by kernel_rfl) ?_
  refine g_need (c := (!((q.err == 0) && true) || decide (0 ≤ q.i)) && (!((q.err == 0) && true) || decide (q.i < (L.length : Int)))) (by kernel_rfl) (by simp; omega) ?_
  refine g_cbr (b := goesOn L q) (by kernel_rfl) (fun h2 => ?_) (fun h2 => ?_)
  · refine g_need (c := decide (0 ≤ q.i) && decide (q.i < (L.length : Int))) (by kernel_rfl) (by simp; omega) ?_
    refine g_call (by kernel_rfl) (one_lits L q (wItems.map fun w => .str (ofL w)) 3 wItems hq (by decide) rfl rfl) ?_
    obtain ⟨m', rfl⟩ : ∃ m', m = m' + 1 := ⟨m - 1, by omega⟩
    rw [itemsGo, h2] at hg
    have hlt := item_lt hq h2
    have hI := hq.item
    have hUp := fun hk => item_up hq hk
    have hm' : 2 * left L (itemP L q) + (if (itemP L q).err == 0 then 1 else 0) < m' := by omega
    have hoB : ∀ (a : List Mt) (b : List Fe) (c : List Ch), { o with meters := a, fees := b, charges := c } = { B with meters := a, fees := b, charges := c } := fun a b c => by rw [ho]
    have hQ1 : Pok L (oneP L q wItems) := hq.one
    refine g_cbr (b := oneV L q 0 wItems == 0) (by kernel_rfl) (fun q1 => ?_) (fun q1 => ?_)
    · refine g_call (by kernel_rfl) (Po.token_runs (L) (oneP L q wItems) (1) (by repeat' (first | assumption | apply Pok.take | apply Pok.want | apply Pok.day | apply Pok.wrong | apply Pok.number | apply Pok.one | apply Pok.window | apply Pok.mode | refine Pok.token ?_ (by decide) | decide)) (by repeat' (first | assumption | apply Pok.take | apply Pok.want | apply Pok.day | apply Pok.wrong | apply Pok.number | apply Pok.one | apply Pok.window | apply Pok.mode | refine Pok.token ?_ (by decide) | decide))) ?_
      refine g_call (by kernel_rfl) (Po.want_runs (L) (tokenP L (oneP L q wItems) 1) ([117, 110, 105, 116]) (by repeat' (first | assumption | apply Pok.take | apply Pok.want | apply Pok.day | apply Pok.wrong | apply Pok.number | apply Pok.one | apply Pok.window | apply Pok.mode | refine Pok.token ?_ (by decide) | decide))) ?_
      refine g_call (by kernel_rfl) (Po.token_runs (L) (wantP L (tokenP L (oneP L q wItems) 1) [117, 110, 105, 116]) (1) (by repeat' (first | assumption | apply Pok.take | apply Pok.want | apply Pok.day | apply Pok.wrong | apply Pok.number | apply Pok.one | apply Pok.window | apply Pok.mode | refine Pok.token ?_ (by decide) | decide)) (by repeat' (first | assumption | apply Pok.take | apply Pok.want | apply Pok.day | apply Pok.wrong | apply Pok.number | apply Pok.one | apply Pok.window | apply Pok.mode | refine Pok.token ?_ (by decide) | decide))) ?_
      refine g_call (by kernel_rfl) (Po.want_runs (L) (tokenP L (wantP L (tokenP L (oneP L q wItems) 1) [117, 110, 105, 116]) 1) ([109, 97, 120]) (by repeat' (first | assumption | apply Pok.take | apply Pok.want | apply Pok.day | apply Pok.wrong | apply Pok.number | apply Pok.one | apply Pok.window | apply Pok.mode | refine Pok.token ?_ (by decide) | decide))) ?_
      refine g_call (by kernel_rfl) (Po.number_runs (L) (wantP L (tokenP L (wantP L (tokenP L (oneP L q wItems) 1) [117, 110, 105, 116]) 1) [109, 97, 120]) (0) (2000) (by repeat' (first | assumption | apply Pok.take | apply Pok.want | apply Pok.day | apply Pok.wrong | apply Pok.number | apply Pok.one | apply Pok.window | apply Pok.mode | refine Pok.token ?_ (by decide) | decide))) ?_
      refine g_call (by kernel_rfl) (Po.want_runs (L) (numberP L (wantP L (tokenP L (wantP L (tokenP L (oneP L q wItems) 1) [117, 110, 105, 116]) 1) [109, 97, 120]) 0 2000) ([59]) (by repeat' (first | assumption | apply Pok.take | apply Pok.want | apply Pok.day | apply Pok.wrong | apply Pok.number | apply Pok.one | apply Pok.window | apply Pok.mode | refine Pok.token ?_ (by decide) | decide))) ?_
      refine g_need (c := Nat.beq 5 5 && (decide (n1 = n1) && (decide ((n1 + 1) * 56 ≤ 140737488355328) && decide (n1 + 1 ≤ 9223372036854775807)))) (by kernel_rfl) (by simp; omega) ?_
      refine g_done (by kernel_rfl) ?_
      exact g_again (by kernel_rfl) ({ p := wantP L (numberP L (wantP L (tokenP L (wantP L (tokenP L (oneP L q wItems) 1) [117, 110, 105, 116]) 1) [109, 97, 120]) 0 2000) [59], o := ({ o with meters := o.meters ++ [mtV L (oneP L q wItems) (tk L q)] }), n1 := n1 + 1, n2 := n2, n3 := n3, f1 := apRow n1 f1 (oneRow 1 (rowD [D.str (ofL (tokenV L (oneP L q wItems) 1)), D.str (ofL (tokenV L (wantP L (tokenP L (oneP L q wItems) 1) [117, 110, 105, 116]) 1)), D.int IntKind.i64 (numberV L (wantP L (tokenP L (wantP L (tokenP L (oneP L q wItems) 1) [117, 110, 105, 116]) 1) [109, 97, 120]) 0 2000), (fun i => (L.getD i default).d) q.i.toNat 2, (fun i => (L.getD i default).d) q.i.toNat 3] 5)), f2 := f2, f3 := f3 : PlL }) (by have hk : oneV L q 0 wItems ≠ -1 := (by rw [beq_iff_eq] at q1; omega); have hu := hUp hk; have e1 : itemP L q = mtP L (oneP L q wItems) := (by rw [itemP, q1]); have e2 : itemV L q o = { o with meters := o.meters ++ [mtV L (oneP L q wItems) (tk L q)] } := (by rw [itemV, q1]); rw [e1, e2] at hg; rw [e1] at hI hu hm'; exact ⟨hI, by simp [hn1], hn2, hn3, by show ((n1 + 1 : Nat) : Int) ≤ (mtP L (oneP L q wItems)).i; omega, by show (n2 : Int) ≤ (mtP L (oneP L q wItems)).i; omega, by show (n3 : Int) ≤ (mtP L (oneP L q wItems)).i; omega, hf1.push hn1 (fun j hj => by rcases j with _|_|_|_|_|j <;> first | rfl | omega), hf2, hf3, hoB _ _ _, m', hm', hg⟩) (by have e1 : itemP L q = mtP L (oneP L q wItems) := (by rw [itemP, q1]); rw [e1] at hlt; exact hlt) (le_mk (by kernel_rfl))
    · refine g_cbr (b := oneV L q 0 wItems == 1) (by kernel_rfl) (fun q2 => ?_) (fun q2 => ?_)
      · refine g_call (by kernel_rfl) (Po.number_runs (L) (oneP L q wItems) (0) (1000000000000) (by repeat' (first | assumption | apply Pok.take | apply Pok.want | apply Pok.day | apply Pok.wrong | apply Pok.number | apply Pok.one | apply Pok.window | apply Pok.mode | refine Pok.token ?_ (by decide) | decide))) ?_
        refine g_call (by kernel_rfl) (Po.window_runs (L) (numberP L (oneP L q wItems) 0 1000000000000) (by repeat' (first | assumption | apply Pok.take | apply Pok.want | apply Pok.day | apply Pok.wrong | apply Pok.number | apply Pok.one | apply Pok.window | apply Pok.mode | refine Pok.token ?_ (by decide) | decide))) ?_
        refine g_call (by kernel_rfl) (Po.want_runs (L) (windowP L (numberP L (oneP L q wItems) 0 1000000000000)) ([59]) (by repeat' (first | assumption | apply Pok.take | apply Pok.want | apply Pok.day | apply Pok.wrong | apply Pok.number | apply Pok.one | apply Pok.window | apply Pok.mode | refine Pok.token ?_ (by decide) | decide))) ?_
        refine g_need (c := Nat.beq 10 10 && (decide (n2 = n2) && (decide ((n2 + 1) * 80 ≤ 140737488355328) && decide (n2 + 1 ≤ 9223372036854775807)))) (by kernel_rfl) (by simp; omega) ?_
        refine g_done (by kernel_rfl) ?_
        exact g_again (by kernel_rfl) ({ p := wantP L (windowP L (numberP L (oneP L q wItems) 0 1000000000000)) [59], o := ({ o with fees := o.fees ++ [feV L (oneP L q wItems) (tk L q)] }), n1 := n1, n2 := n2 + 1, n3 := n3, f1 := f1, f2 := apRow n2 f2 (oneRow 1 (rowD [D.int IntKind.i64 (numberV L (oneP L q wItems) 0 1000000000000), D.bool (windowV L (numberP L (oneP L q wItems) 0 1000000000000)).has, D.int IntKind.i64 (windowV L (numberP L (oneP L q wItems) 0 1000000000000)).f.y, D.int IntKind.i64 (windowV L (numberP L (oneP L q wItems) 0 1000000000000)).f.m, D.int IntKind.i64 (windowV L (numberP L (oneP L q wItems) 0 1000000000000)).f.d, D.int IntKind.i64 (windowV L (numberP L (oneP L q wItems) 0 1000000000000)).t.y, D.int IntKind.i64 (windowV L (numberP L (oneP L q wItems) 0 1000000000000)).t.m, D.int IntKind.i64 (windowV L (numberP L (oneP L q wItems) 0 1000000000000)).t.d, (fun i => (L.getD i default).d) q.i.toNat 2, (fun i => (L.getD i default).d) q.i.toNat 3] 10)), f3 := f3 : PlL }) (by have hk : oneV L q 0 wItems ≠ -1 := (by rw [beq_iff_eq] at q2; omega); have hu := hUp hk; have e1 : itemP L q = feP L (oneP L q wItems) := (by rw [itemP, q1, q2]); have e2 : itemV L q o = { o with fees := o.fees ++ [feV L (oneP L q wItems) (tk L q)] } := (by rw [itemV, q1, q2]); rw [e1, e2] at hg; rw [e1] at hI hu hm'; exact ⟨hI, hn1, by simp [hn2], hn3, by show (n1 : Int) ≤ (feP L (oneP L q wItems)).i; omega, by show ((n2 + 1 : Nat) : Int) ≤ (feP L (oneP L q wItems)).i; omega, by show (n3 : Int) ≤ (feP L (oneP L q wItems)).i; omega, hf1, hf2.push hn2 (fun j hj => by rcases j with _|_|_|_|_|_|_|_|_|_|j <;> first | rfl | omega), hf3, hoB _ _ _, m', hm', hg⟩) (by have e1 : itemP L q = feP L (oneP L q wItems) := (by rw [itemP, q1, q2]); rw [e1] at hlt; exact hlt) (le_mk (by kernel_rfl))
      · refine g_cbr (b := oneV L q 0 wItems == 2) (by kernel_rfl) (fun q3 => ?_) (fun q3 => ?_)
        · refine g_call (by kernel_rfl) (Po.charge_runs (L) (oneP L q wItems) ((L.getD q.i.toNat default).l) ((L.getD q.i.toNat default).c) (by repeat' (first | assumption | apply Pok.take | apply Pok.want | apply Pok.day | apply Pok.wrong | apply Pok.number | apply Pok.one | apply Pok.window | apply Pok.mode | refine Pok.token ?_ (by decide) | decide))) ?_
          refine g_need (c := Nat.beq 16 16 && (decide (n3 = n3) && (decide ((n3 + 1) * 168 ≤ 140737488355328) && decide (n3 + 1 ≤ 9223372036854775807)))) (by kernel_rfl) (by simp; omega) ?_
          refine g_done (by kernel_rfl) ?_
          exact g_again (by kernel_rfl) ({ p := chargeP L (oneP L q wItems), o := ({ o with charges := o.charges ++ [chargeV L (oneP L q wItems) (tk L q).l (tk L q).c] }), n1 := n1, n2 := n2, n3 := n3 + 1, f1 := f1, f2 := f2, f3 := apRow n3 f3 (oneRow 1 (rowD [D.str (ofL (chargeV L (oneP L q wItems) (L.getD q.i.toNat default).l (L.getD q.i.toNat default).c).meter), D.bool (chargeV L (oneP L q wItems) (L.getD q.i.toNat default).l (L.getD q.i.toNat default).c).w.has, D.int IntKind.i64 (chargeV L (oneP L q wItems) (L.getD q.i.toNat default).l (L.getD q.i.toNat default).c).w.f.y, D.int IntKind.i64 (chargeV L (oneP L q wItems) (L.getD q.i.toNat default).l (L.getD q.i.toNat default).c).w.f.m, D.int IntKind.i64 (chargeV L (oneP L q wItems) (L.getD q.i.toNat default).l (L.getD q.i.toNat default).c).w.f.d, D.int IntKind.i64 (chargeV L (oneP L q wItems) (L.getD q.i.toNat default).l (L.getD q.i.toNat default).c).w.t.y, D.int IntKind.i64 (chargeV L (oneP L q wItems) (L.getD q.i.toNat default).l (L.getD q.i.toNat default).c).w.t.m, D.int IntKind.i64 (chargeV L (oneP L q wItems) (L.getD q.i.toNat default).l (L.getD q.i.toNat default).c).w.t.d, D.int IntKind.i64 (chargeV L (oneP L q wItems) (L.getD q.i.toNat default).l (L.getD q.i.toNat default).c).allow, D.int IntKind.i64 (chargeV L (oneP L q wItems) (L.getD q.i.toNat default).l (L.getD q.i.toNat default).c).block, D.int IntKind.i64 (chargeV L (oneP L q wItems) (L.getD q.i.toNat default).l (L.getD q.i.toNat default).c).kind, trS (chargeV L (oneP L q wItems) (L.getD q.i.toNat default).l (L.getD q.i.toNat default).c).tiers, D.int IntKind.i64 (chargeV L (oneP L q wItems) (L.getD q.i.toNat default).l (L.getD q.i.toNat default).c).mode, ajS (chargeV L (oneP L q wItems) (L.getD q.i.toNat default).l (L.getD q.i.toNat default).c).adj, D.int IntKind.i64 (chargeV L (oneP L q wItems) (L.getD q.i.toNat default).l (L.getD q.i.toNat default).c).line, D.int IntKind.i64 (chargeV L (oneP L q wItems) (L.getD q.i.toNat default).l (L.getD q.i.toNat default).c).col] 16)) : PlL }) (by have hk : oneV L q 0 wItems ≠ -1 := (by rw [beq_iff_eq] at q3; omega); have hu := hUp hk; have e1 : itemP L q = chargeP L (oneP L q wItems) := (by rw [itemP, q1, q2, q3]); have e2 : itemV L q o = { o with charges := o.charges ++ [chargeV L (oneP L q wItems) (tk L q).l (tk L q).c] } := (by rw [itemV, q1, q2, q3]); rw [e1, e2] at hg; rw [e1] at hI hu hm'; exact ⟨hI, hn1, hn2, by simp [hn3], by show (n1 : Int) ≤ (chargeP L (oneP L q wItems)).i; omega, by show (n2 : Int) ≤ (chargeP L (oneP L q wItems)).i; omega, by show ((n3 + 1 : Nat) : Int) ≤ (chargeP L (oneP L q wItems)).i; omega, hf1, hf2, hf3.push hn3 (fun j hj => by rcases j with _|_|_|_|_|_|_|_|_|_|_|_|_|_|_|_|j <;> first | rfl | omega), hoB _ _ _, m', hm', hg⟩) (by have e1 : itemP L q = chargeP L (oneP L q wItems) := (by rw [itemP, q1, q2, q3]); rw [e1] at hlt; exact hlt) (le_mk (by kernel_rfl))
        · refine g_call (by kernel_rfl) (Po.wrong_runs (L) (oneP L q wItems) (4) (by repeat' (first | assumption | apply Pok.take | apply Pok.want | apply Pok.day | apply Pok.wrong | apply Pok.number | apply Pok.one | apply Pok.window | apply Pok.mode | refine Pok.token ?_ (by decide) | decide))) ?_
          refine g_done (by kernel_rfl) ?_
          exact g_again (by kernel_rfl) ({ p := wrongP L (oneP L q wItems) 4, o := (o), n1 := n1, n2 := n2, n3 := n3, f1 := f1, f2 := f2, f3 := f3 : PlL }) (by have e1 : itemP L q = wrongP L (oneP L q wItems) 4 := (by rw [itemP, q1, q2, q3]); have e2 : itemV L q o = o := (by rw [itemV, q1, q2, q3]); rw [e1, e2] at hg; rw [e1] at hI hm'; have hge : q.i ≤ (wrongP L (oneP L q wItems) 4).i := (by rw [wrong_i]; exact one_ge); exact ⟨hI, hn1, hn2, hn3, by simp only []; omega, by simp only []; omega, by simp only []; omega, hf1, hf2, hf3, ho, m', hm', hg⟩) (by have e1 : itemP L q = wrongP L (oneP L q wItems) 4 := (by rw [itemP, q1, q2, q3]); rw [e1] at hlt; exact hlt) (le_mk (by kernel_rfl))
  · have hG : r = (o, q) := by
      obtain ⟨m', rfl⟩ : ∃ m', m = m' + 1 := ⟨m - 1, by omega⟩
      rw [← hg, itemsGo, h2]
    rw [hG]
    refine g_done (by kernel_rfl) ?_
    refine g_leave (by kernel_rfl) ?_
    refine g_cbr (b := q.err != 0) (by kernel_rfl) (fun q1 => ?_) (fun q1 => ?_)
    · refine g_done (by kernel_rfl) ?_
      exact finLe (show _ = some (A.tup [V.agg [D.str (ofL []), D.str (ofL []), D.int IntKind.i64 0, D.int IntKind.i64 0, D.int IntKind.i64 0, D.int IntKind.i64 0, D.int IntKind.i64 0, D.int IntKind.i64 0, D.nil, D.nil, D.nil, D.int IntKind.i64 0, D.int IntKind.i64 0], V.d (D.int IntKind.i64 q.err), V.d (D.int IntKind.i64 q.line), V.d (D.int IntKind.i64 q.col)], []) from by kernel_rfl) (by rw [q1]; exact resT (.cons (aggV_le (.cons (V.le_refl _) (.cons (V.le_refl _) (.cons (V.le_refl _) (.cons (V.le_refl _) (.cons (V.le_refl _) (.cons (V.le_refl _) (.cons (V.le_refl _) (.cons (V.le_refl _) (.cons nil_le (.cons nil_le (.cons nil_le (DsLe.refl _))))))))))))) (.cons (V.le_refl _) (.cons (V.le_refl _) (.cons (V.le_refl _) .nil))))) (BsLe.refl _)
    · refine g_done (by kernel_rfl) ?_
      exact finLe (show _ = some (A.tup [V.agg [D.str (ofL B.name), D.str (ofL B.cur), D.int IntKind.i64 B.f.y, D.int IntKind.i64 B.f.m, D.int IntKind.i64 B.f.d, D.int IntKind.i64 B.t.y, D.int IntKind.i64 B.t.m, D.int IntKind.i64 B.t.d, D.sl n1 5 f1, D.sl n2 10 f2, D.sl n3 16 f3, D.int IntKind.i64 B.line, D.int IntKind.i64 B.col], V.d (D.int IntKind.i64 0), V.d (D.int IntKind.i64 0), V.d (D.int IntKind.i64 0)], []) from by kernel_rfl) (by rw [q1, ho]; exact resT (.cons (aggV_le (.cons (V.le_refl _) (.cons (V.le_refl _) (.cons (V.le_refl _) (.cons (V.le_refl _) (.cons (V.le_refl _) (.cons (V.le_refl _) (.cons (V.le_refl _) (.cons (V.le_refl _) (.cons (rows_le default hn1 hf1) (.cons (rows_le default hn2 hf2) (.cons (rows_le default hn3 hf3) (DsLe.refl _))))))))))))) (.cons (V.le_refl _) (.cons (V.le_refl _) (.cons (V.le_refl _) .nil))))) (BsLe.refl _)
end Po
