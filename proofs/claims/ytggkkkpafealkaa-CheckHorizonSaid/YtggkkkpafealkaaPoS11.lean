/- What the document's functions compute, in plain words: a plan's parsing. -/
import Derived.Test.YtggkkkpafealkaaPoS10
namespace Po
open Go Go.Ab
structure Mt where (name unit : Bs) (max line col : Int)
  deriving DecidableEq
instance : Inhabited Mt := ⟨⟨[], [], 0, 0, 0⟩⟩
def Mt.d (x : Mt) : Nat → D | 0 => .str (ofL x.name) | 1 => .str (ofL x.unit) | 2 => .int .i64 x.max | 3 => .int .i64 x.line | 4 => .int .i64 x.col | _ => .nil
structure Fe where (amount : Int) (w : Wn) (line col : Int)
  deriving DecidableEq
instance : Inhabited Fe := ⟨⟨0, Wn.z, 0, 0⟩⟩
def Fe.d (x : Fe) : Nat → D | 0 => .int .i64 x.amount | 1 => .bool x.w.has | 2 => .int .i64 x.w.f.y | 3 => .int .i64 x.w.f.m | 4 => .int .i64 x.w.f.d | 5 => .int .i64 x.w.t.y | 6 => .int .i64 x.w.t.m | 7 => .int .i64 x.w.t.d | 8 => .int .i64 x.line | 9 => .int .i64 x.col | _ => .nil
def Ch.d (c : Ch) : Nat → D
  | 0 => .str (ofL c.meter) | 1 => .bool c.w.has | 2 => .int .i64 c.w.f.y | 3 => .int .i64 c.w.f.m | 4 => .int .i64 c.w.f.d | 5 => .int .i64 c.w.t.y | 6 => .int .i64 c.w.t.m | 7 => .int .i64 c.w.t.d
  | 8 => .int .i64 c.allow | 9 => .int .i64 c.block | 10 => .int .i64 c.kind | 11 => trS c.tiers | 12 => .int .i64 c.mode | 13 => ajS c.adj | 14 => .int .i64 c.line | 15 => .int .i64 c.col | _ => .nil
def mtS (l : List Mt) : D := .sl l.length 5 fun i => (l.getD i default).d
def feS (l : List Fe) : D := .sl l.length 10 fun i => (l.getD i default).d
def chS' (l : List Ch) : D := .sl l.length 16 fun i => (l.getD i default).d
structure Pl where (name cur : Bs) (f t : Dt) (meters : List Mt) (fees : List Fe) (charges : List Ch) (line col : Int)
def Pl.z : Pl := ⟨[], [], Dt.z, Dt.z, [], [], [], 0, 0⟩
def Pl.cs (p : Pl) : List D := [.str (ofL p.name), .str (ofL p.cur), .int .i64 p.f.y, .int .i64 p.f.m, .int .i64 p.f.d, .int .i64 p.t.y, .int .i64 p.t.m, .int .i64 p.t.d, mtS p.meters, feS p.fees, chS' p.charges, .int .i64 p.line, .int .i64 p.col]
structure PR where (plan : Pl) (err line col : Int)
abbrev PR.a (r : PR) : A := .tup [.agg r.plan.cs, .d (.int .i64 r.err), .d (.int .i64 r.line), .d (.int .i64 r.col)]
def bPlan : Bs := [112, 108, 97, 110]
def bCur : Bs := [99, 117, 114, 114, 101, 110, 99, 121]
def bHor : Bs := [104, 111, 114, 105, 122, 111, 110]
def bUnit : Bs := [117, 110, 105, 116]
def bMax : Bs := [109, 97, 120]
def mtU (L : List Tok) (p : Ps) : Ps := wantP L (tokenP L p 1) bUnit
def mtX (L : List Tok) (p : Ps) : Ps := wantP L (tokenP L (mtU L p) 1) bMax
def mtP (L : List Tok) (p : Ps) : Ps := wantP L (numberP L (mtX L p) 0 2000) bSemi
def mtV (L : List Tok) (p : Ps) (t : Tok) : Mt := ⟨tokenV L p 1, tokenV L (mtU L p) 1, numberV L (mtX L p) 0 2000, t.l, t.c⟩
def feN (L : List Tok) (p : Ps) : Ps := numberP L p 0 1000000000000
def feP (L : List Tok) (p : Ps) : Ps := wantP L (windowP L (feN L p)) bSemi
def feV (L : List Tok) (p : Ps) (t : Tok) : Fe := ⟨numberV L p 0 1000000000000, windowV L (feN L p), t.l, t.c⟩
def itemP (L : List Tok) (p : Ps) : Ps :=
  match oneV L p 0 wItems == 0, oneV L p 0 wItems == 1, oneV L p 0 wItems == 2 with
  | true, _, _ => mtP L (oneP L p wItems)
  | false, true, _ => feP L (oneP L p wItems)
  | false, false, true => chargeP L (oneP L p wItems)
  | false, false, false => wrongP L (oneP L p wItems) 4
def itemV (L : List Tok) (p : Ps) (o : Pl) : Pl :=
  match oneV L p 0 wItems == 0, oneV L p 0 wItems == 1, oneV L p 0 wItems == 2 with
  | true, _, _ => { o with meters := o.meters ++ [mtV L (oneP L p wItems) (tk L p)] }
  | false, true, _ => { o with fees := o.fees ++ [feV L (oneP L p wItems) (tk L p)] }
  | false, false, true => { o with charges := o.charges ++ [chargeV L (oneP L p wItems) (tk L p).l (tk L p).c] }
  | false, false, false => o
def goesOn (L : List Tok) (p : Ps) : Bool := p.err == 0 && (tk L p).k != 0
def itemsGo (L : List Tok) : Nat → Ps → Pl → Pl × Ps
  | 0, p, o => (o, p)
  | n + 1, p, o => match goesOn L p with | true => itemsGo L n (itemP L p) (itemV L p o) | false => (o, p)
def hd1 (L : List Tok) : Ps := wantP L ⟨0, 0, 0, 0⟩ bPlan
def hd2 (L : List Tok) : Ps := wantP L (tokenP L (hd1 L) 1) bCur
def hd3 (L : List Tok) : Ps := wantP L (wantP L (tokenP L (hd2 L) 1) bSemi) bHor
def hd4 (L : List Tok) : Ps := wantP L (dayP L (dayP L (hd3 L))) bSemi
def hdV (L : List Tok) : Pl := ⟨tokenV L (hd1 L) 1, tokenV L (hd2 L) 1, dayV L (hd3 L), dayV L (dayP L (hd3 L)), [], [], [], (L.getD 0 default).l, (L.getD 0 default).c⟩
def parse (s : Bs) : PR :=
  match (lex s).err != 0 with
  | true => ⟨Pl.z, (lex s).err, (lex s).line, (lex s).col⟩
  | false =>
    let L := (lex s).toks
    let r := itemsGo L (2 * L.length + 2) (hd4 L) (hdV L)
    match r.2.err != 0 with | true => ⟨Pl.z, r.2.err, r.2.line, r.2.col⟩ | false => ⟨r.1, 0, 0, 0⟩
theorem left_le (L : List Tok) (p : Ps) : left L p ≤ L.length := by unfold left; omega
/-! ### the parser goes on -/
theorem opt_ge {L : List Tok} {p : Ps} {w : Bs} : p.i ≤ (optP L p w).i := by
  unfold optP; split
  · exact Int.le_trans take_ge (Int.le_trans number_ge want_ge)
  · exact Int.le_refl _
theorem kind_ge {L : List Tok} {p : Ps} : p.i ≤ (kindP L p).i := by
  unfold kindP; split
  · rw [wrong_i]; exact one_ge
  · exact one_ge
theorem tiersGo_ok {L : List Tok} : ∀ (n : Nat) {p : Ps} (o : List Tr), Pok L p → p.i ≤ (tiersGo L n p o).2.i ∧ Pok L (tiersGo L n p o).2
  | 0, p, o, h => ⟨Int.le_refl _, h⟩
  | n + 1, p, o, h => by
    unfold tiersGo; split
    · rename_i ho; have h1 := tier_up ho; have h2 := tiersGo_ok n (o ++ [tierV L p]) h.tier; exact ⟨by omega, h2.2⟩
    · exact ⟨Int.le_refl _, h⟩
theorem ajsGo_ok {L : List Tok} : ∀ (n : Nat) {p : Ps} (o : List Aj), Pok L p → p.i ≤ (ajsGo L n p o).2.i ∧ Pok L (ajsGo L n p o).2
  | 0, p, o, h => ⟨Int.le_refl _, h⟩
  | n + 1, p, o, h => by
    unfold ajsGo; split
    · exact ⟨one_ge, h.one⟩
    · rename_i ho; have h1 := aj_up ho; have h2 := ajsGo_ok n (p := wantP L (ajP L p) bSemi) (o ++ [ajV L p]) h.aj.want; exact ⟨by omega, h2.2⟩
theorem charge_ok {L : List Tok} {p : Ps} (h : Pok L p) : p.i ≤ (chargeP L p).i ∧ Pok L (chargeP L p) := by
  have a1 : p.i ≤ (chH L p).i := Int.le_trans token_ge (Int.le_trans window_ge want_ge)
  have b1 : Pok L (chH L p) := (h.token (by decide)).window.want
  have a2 : (chH L p).i ≤ (chK L p).i := Int.le_trans opt_ge opt_ge
  have b2 : Pok L (chK L p) := b1.opt.opt
  have a3 : (chK L p).i ≤ (chT L p).i := Int.le_trans kind_ge want_ge
  have b3 : Pok L (chT L p) := b2.kind.want
  obtain ⟨a4, b4⟩ := tiersGo_ok L.length [] b3
  have a5 : (tiersGo L L.length (chT L p) []).2.i ≤ (chR L p).i := Int.le_trans want_ge want_ge
  have b5 : Pok L (chR L p) := b4.want.want
  have a6 : (chR L p).i ≤ (chM L p).i := Int.le_trans number_ge (Int.le_trans want_ge (Int.le_trans want_ge want_ge))
  have b6 : Pok L (chM L p) := b5.number.want.want.want
  have a7 : (chM L p).i ≤ (chA L p).i := Int.le_trans mode_ge want_ge
  have b7 : Pok L (chA L p) := b6.mode.want
  obtain ⟨a8, b8⟩ := ajsGo_ok L.length [] b7
  have a9 : (ajsGo L L.length (chA L p) []).2.i ≤ (chargeP L p).i := want_ge
  exact ⟨by omega, b8.want⟩
theorem Pok.item {L : List Tok} {p : Ps} (h : Pok L p) : Pok L (itemP L p) := by
  unfold itemP; split
  · exact ((((h.one.token (by decide)).want.token (by decide)).want).number).want
  · exact h.one.number.window.want
  · exact (charge_ok h.one).2
  · exact h.one.wrong
theorem one_same {L : List Tok} {p : Ps} : ∀ {ws : List Bs} {i : Int}, 0 ≤ i → oneV L p i ws = -1 → oneP L p ws = p
  | [], _, _, _ => rfl
  | w :: ws, i, hi, h => by
    unfold oneP; unfold oneV at h; split
    · rename_i ho; rw [ho] at h; simp only at h; omega
    · rename_i ho; rw [ho] at h; exact one_same (by omega) h
theorem item_up {L : List Tok} {p : Ps} (h : Pok L p) (hk : oneV L p 0 wItems ≠ -1) : p.i < (itemP L p).i := by
  have h1 := one_up (Int.le_refl 0) hk
  have hr := @one_range L p wItems 0 (Int.le_refl 0)
  have hl : (wItems.length : Int) = 3 := rfl
  have h2 : (oneP L p wItems).i ≤ (itemP L p).i := by
    unfold itemP; split
    · exact Int.le_trans token_ge (Int.le_trans want_ge (Int.le_trans token_ge (Int.le_trans want_ge (Int.le_trans number_ge want_ge))))
    · exact Int.le_trans number_ge (Int.le_trans window_ge want_ge)
    · exact (charge_ok h.one).1
    · rw [wrong_i]; exact Int.le_refl _
  omega
theorem item_lt {L : List Tok} {p : Ps} (h : Pok L p) (hg : goesOn L p = true) : 2 * left L (itemP L p) + (if (itemP L p).err == 0 then 1 else 0) < 2 * left L p + (if p.err == 0 then 1 else 0) := by
  have he : (p.err == 0) = true := by unfold goesOn at hg; rw [Bool.and_eq_true] at hg; exact hg.1
  rw [if_pos he]
  by_cases hk : oneV L p 0 wItems = -1
  · have e : itemP L p = wrongP L p 4 := by unfold itemP; rw [hk, one_same (Int.le_refl 0) hk]; rfl
    rw [e, wrongP, he]
    show 2 * left L p + (if (4 : Int) == 0 then 1 else 0) < _
    simp
  · have h1 := left_lt h (item_up h hk)
    split <;> omega
/-! ### the lexer's tokens are in order -/
theorem take_len {α : Type} (l : List α) (n : Nat) : (l.take n).length ≤ l.length := by rw [List.length_take]; omega
theorem lexGo_ok : ∀ (n : Nat) (s : Bs) (line col : Int) (o : List Tok), s.length + 1 ≤ n → s.length ≤ 8192 → (∀ t ∈ o, t.t.length ≤ 8192) →
    (lexGo n s line col o).err = 0 → ∃ o' e, (lexGo n s line col o).toks = o' ++ [e] ∧ e.k = 0 ∧ o'.length ≤ o.length + s.length ∧ ∀ t ∈ o' ++ [e], t.t.length ≤ 8192
  | 0, s, _, _, _, h, _, _, _ => by omega
  | n + 1, [], line, col, o, _, _, ho, _ => ⟨o, ⟨0, [], line, col⟩, rfl, rfl, by simp, by
      intro t ht; rcases List.mem_append.1 ht with h | h
      · exact ho t h
      · obtain rfl := List.mem_singleton.1 h; simp⟩
  | n + 1, c :: r, line, col, o, h, hs, ho, he => by
    have hk : ∃ k, 1 ≤ k ∧ tlen c.toNat r = k := ⟨_, by
      unfold tlen; split
      · omega
      · split <;> omega, rfl⟩
    obtain ⟨k, hk1, hk⟩ := hk
    have hd : ((c :: r).drop k).length + 1 ≤ (c :: r).length := by rw [List.length_drop]; simp; omega
    have go : ∀ (line col : Int) (o1 : List Tok), (∀ t ∈ o1, t.t.length ≤ 8192) → o1.length ≤ o.length + 1 → (lexGo n ((c :: r).drop k) line col o1).err = 0 →
        ∃ o' e, (lexGo n ((c :: r).drop k) line col o1).toks = o' ++ [e] ∧ e.k = 0 ∧ o'.length ≤ o.length + (c :: r).length ∧ ∀ t ∈ o' ++ [e], t.t.length ≤ 8192 := by
      intro line col o1 h1 h2 h3
      obtain ⟨o', e, e1, e2, e3, e4⟩ := lexGo_ok n _ line col o1 (by omega) (by omega) h1 h3
      exact ⟨o', e, e1, e2, by omega, e4⟩
    rw [lexGo] at he ⊢
    simp only [hk] at he ⊢
    by_cases h1 : ((c.toNat : Int) == 35 || !ink c.toNat) = true
    · rw [if_pos h1] at he ⊢
      simp only at he ⊢
      split at he <;> rename_i h2
      · rw [if_pos h2]; exact go _ _ _ ho (by omega) he
      · rw [if_neg h2]; exact go _ _ _ ho (by omega) he
    · rw [if_neg h1] at he ⊢
      by_cases h2 : (kof ((c :: r).take k) == 0) = true
      · rw [if_pos h2] at he; simp at he
      · rw [if_neg h2] at he ⊢
        have ho1 : ∀ t ∈ o ++ [(⟨kof ((c :: r).take k), (c :: r).take k, line, col⟩ : Tok)], t.t.length ≤ 8192 := by
          intro t ht; rcases List.mem_append.1 ht with h | h
          · exact ho t h
          · obtain rfl := List.mem_singleton.1 h; exact Nat.le_trans (take_len _ _) hs
        simp only at he ⊢
        split at he <;> rename_i h3
        · rw [if_pos h3]; exact go _ _ _ ho1 (by simp) he
        · rw [if_neg h3]; exact go _ _ _ ho1 (by simp) he
theorem lex_ok (s : Bs) (h : (lex s).err = 0) : Lok (lex s).toks ∧ 0 < (lex s).toks.length := by
  unfold lex at h ⊢
  split at h
  · simp at h
  · rename_i hs
    rw [if_neg hs]
    obtain ⟨o', e, e1, e2, e3, e4⟩ := lexGo_ok (s.length + 1) s 1 1 [] (Nat.le_refl _) (by omega) (by simp) h
    rw [e1]
    have hl : o'.length ≤ 8192 := by have : ([] : List Tok).length = 0 := rfl; omega
    refine ⟨⟨by simp; omega, fun i hi => ⟨?_, fun hk => ?_⟩⟩, by simp⟩
    · rw [List.getD_eq_getElem?_getD, List.getElem?_eq_getElem hi]; exact e4 _ (List.getElem_mem hi)
    · simp only [List.length_append, List.length_singleton] at hi ⊢
      by_cases hi' : i = o'.length
      · subst hi'; simp [e2] at hk
      · omega
end Po
