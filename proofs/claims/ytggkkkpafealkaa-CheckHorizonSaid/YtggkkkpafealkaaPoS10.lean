/- What the document's functions compute, in plain words: a charge's parsing. -/
import Derived.Test.YtggkkkpafealkaaPoS9
namespace Po
open Go Go.Ab
structure Tr where (u r : Int)
  deriving DecidableEq
instance : Inhabited Tr := ⟨⟨0, 0⟩⟩
def Tr.d (x : Tr) : Nat → D | 0 => .int .i64 x.u | 1 => .int .i64 x.r | _ => .nil
structure Aj where (k n m : Int)
  deriving DecidableEq
instance : Inhabited Aj := ⟨⟨0, 0, 0⟩⟩
def Aj.d (x : Aj) : Nat → D | 0 => .int .i64 x.k | 1 => .int .i64 x.n | 2 => .int .i64 x.m | _ => .nil
def trS (l : List Tr) : D := .sl l.length 2 fun i => (l.getD i default).d
def ajS (l : List Aj) : D := .sl l.length 3 fun i => (l.getD i default).d
structure Ch where (meter : Bs) (w : Wn) (allow block kind : Int) (tiers : List Tr) (mode : Int) (adj : List Aj) (line col : Int)
instance : Inhabited Ch := ⟨⟨[], Wn.z, 0, 0, 0, [], 0, [], 0, 0⟩⟩
def Ch.cs (c : Ch) : List D := [.str (ofL c.meter), .bool c.w.has, .int .i64 c.w.f.y, .int .i64 c.w.f.m, .int .i64 c.w.f.d, .int .i64 c.w.t.y, .int .i64 c.w.t.m, .int .i64 c.w.t.d,
  .int .i64 c.allow, .int .i64 c.block, .int .i64 c.kind, trS c.tiers, .int .i64 c.mode, ajS c.adj, .int .i64 c.line, .int .i64 c.col]
def bSemi : Bs := [59]
def bOpen : Bs := [123]
def bClose : Bs := [125]
def bAllow : Bs := [97, 108, 108, 111, 119, 97, 110, 99, 101]
def bBlock : Bs := [98, 108, 111, 99, 107]
def bUpto : Bs := [117, 112, 116, 111]
def bRate : Bs := [114, 97, 116, 101]
def bRest : Bs := [114, 101, 115, 116]
def bRound : Bs := [114, 111, 117, 110, 100]
/-- a number behind a word, if that is told -/
def optV (L : List Tok) (p : Ps) (w : Bs) (z : Int) : Int := match on L p w with | true => numberV L (takeP L p w) 0 1000000 | false => z
def optP (L : List Tok) (p : Ps) (w : Bs) : Ps := match on L p w with | true => wantP L (numberP L (takeP L p w) 0 1000000) bSemi | false => p
theorem Pok.opt {L : List Tok} {p : Ps} {w : Bs} (h : Pok L p) : Pok L (optP L p w) := by
  unfold optP; split
  · exact h.take.number.want
  · exact h
def kindP (L : List Tok) (p : Ps) : Ps := match 1 + oneV L p 0 wKinds == 0 with | true => wrongP L (oneP L p wKinds) 4 | false => oneP L p wKinds
theorem Pok.kind {L : List Tok} {p : Ps} (h : Pok L p) : Pok L (kindP L p) := by
  unfold kindP; split
  · exact h.one.wrong
  · exact h.one
def tierN (L : List Tok) (p : Ps) : Ps := wantP L (numberP L (takeP L p bUpto) 0 1000000) bRate
def tierV (L : List Tok) (p : Ps) : Tr := ⟨numberV L (takeP L p bUpto) 0 1000000, numberV L (tierN L p) 6 1000000000000⟩
def tierP (L : List Tok) (p : Ps) : Ps := wantP L (numberP L (tierN L p) 6 1000000000000) bSemi
theorem Pok.tierN {L : List Tok} {p : Ps} (h : Pok L p) : Pok L (tierN L p) := h.take.number.want
theorem Pok.tier {L : List Tok} {p : Ps} (h : Pok L p) : Pok L (tierP L p) := h.tierN.number.want
def tiersGo (L : List Tok) : Nat → Ps → List Tr → List Tr × Ps
  | 0, p, o => (o, p)
  | n + 1, p, o => match on L p bUpto with | true => tiersGo L n (tierP L p) (o ++ [tierV L p]) | false => (o, p)
def ajK (L : List Tok) (p : Ps) : Int := 1 + oneV L p 0 wAdj
def ajP (L : List Tok) (p : Ps) : Ps := match ajK L p == 1 with | true => modeP L (numberP L (oneP L p wAdj) 3 100000000) | false => numberP L (oneP L p wAdj) 0 1000000000000
def ajV (L : List Tok) (p : Ps) : Aj := match ajK L p == 1 with | true => ⟨ajK L p, numberV L (oneP L p wAdj) 3 100000000, modeV L (numberP L (oneP L p wAdj) 3 100000000)⟩ | false => ⟨ajK L p, numberV L (oneP L p wAdj) 0 1000000000000, 0⟩
theorem Pok.aj {L : List Tok} {p : Ps} (h : Pok L p) : Pok L (ajP L p) := by
  unfold ajP; split
  · exact h.one.number.mode
  · exact h.one.number
def ajsGo (L : List Tok) : Nat → Ps → List Aj → List Aj × Ps
  | 0, p, o => (o, p)
  | n + 1, p, o => match ajK L p == 0 with | true => (o, oneP L p wAdj) | false => ajsGo L n (wantP L (ajP L p) bSemi) (o ++ [ajV L p])
/-! ### the parser goes on -/
def left (L : List Tok) (p : Ps) : Nat := L.length - p.i.toNat
theorem take_up {L : List Tok} {p : Ps} {s : Bs} (h : on L p s = true) : (takeP L p s).i = p.i + 1 := by unfold takeP; rw [h]; rfl
theorem take_ge {L : List Tok} {p : Ps} {s : Bs} : p.i ≤ (takeP L p s).i := by
  unfold takeP; split
  · show p.i ≤ p.i + 1; omega
  · omega
theorem want_ge {L : List Tok} {p : Ps} {s : Bs} : p.i ≤ (wantP L p s).i := by
  unfold wantP; split
  · exact take_ge
  · rw [wrong_i]; exact take_ge
theorem token_ge {L : List Tok} {p : Ps} {k : Int} : p.i ≤ (tokenP L p k).i := by
  unfold tokenP; split
  · show p.i ≤ p.i + 1; omega
  · rw [wrong_i]; omega
theorem number_ge {L : List Tok} {p : Ps} {a b : Int} : p.i ≤ (numberP L p a b).i := by
  unfold numberP; split
  · show p.i ≤ (numberQ L p _).i + 1; rw [numQ_i]; omega
  · rw [wrong_i]; omega
theorem one_ge {L : List Tok} {p : Ps} : ∀ {ws : List Bs}, p.i ≤ (oneP L p ws).i
  | [] => Int.le_refl _
  | w :: ws => by unfold oneP; split
                  · exact take_ge
                  · exact one_ge
theorem one_up {L : List Tok} {p : Ps} : ∀ {ws : List Bs} {i : Int}, 0 ≤ i → oneV L p i ws ≠ -1 → (oneP L p ws).i = p.i + 1
  | [], i, _, h => absurd rfl h
  | w :: ws, i, hi, h => by
    unfold oneP; unfold oneV at h; split
    · rename_i ho; exact take_up ho
    · rename_i ho; rw [ho] at h; exact one_up (by omega) h
theorem mode_ge {L : List Tok} {p : Ps} : p.i ≤ (modeP L p).i := by
  unfold modeP; split
  · rw [wrong_i]; exact one_ge
  · exact one_ge
theorem day_ge {L : List Tok} {p : Ps} : p.i ≤ (dayP L p).i := token_ge
theorem window_ge {L : List Tok} {p : Ps} : p.i ≤ (windowP L p).i := by
  unfold windowP; split
  · exact Int.le_trans take_ge (Int.le_trans day_ge (Int.le_trans want_ge day_ge))
  · exact Int.le_refl _
theorem tier_up {L : List Tok} {p : Ps} (h : on L p bUpto = true) : p.i < (tierP L p).i := by
  have h1 := take_up h
  have h2 := @number_ge L (takeP L p bUpto) 0 1000000
  have h3 := @want_ge L (numberP L (takeP L p bUpto) 0 1000000) bRate
  have h4 := @number_ge L (tierN L p) 6 1000000000000
  have h5 := @want_ge L (numberP L (tierN L p) 6 1000000000000) bSemi
  show p.i < (wantP L (numberP L (tierN L p) 6 1000000000000) bSemi).i
  have h6 : (wantP L (numberP L (takeP L p bUpto) 0 1000000) bRate).i = (tierN L p).i := rfl
  omega
theorem aj_up {L : List Tok} {p : Ps} (h : (ajK L p == 0) = false) : p.i < (wantP L (ajP L p) bSemi).i := by
  have h1 : (oneP L p wAdj).i = p.i + 1 := one_up (Int.le_refl 0) (fun e => by rw [ajK, e] at h; exact absurd h (by decide))
  have h2 : (oneP L p wAdj).i ≤ (ajP L p).i := by
    unfold ajP; split
    · exact Int.le_trans number_ge mode_ge
    · exact number_ge
  have h3 := @want_ge L (ajP L p) bSemi
  omega
theorem left_lt {L : List Tok} {p q : Ps} (h : Pok L p) (hi : p.i < q.i) : left L q < left L p := by
  obtain ⟨_, h1, h2⟩ := h; unfold left; omega
theorem left_pos {L : List Tok} {p : Ps} (h : Pok L p) : 0 < left L p := by
  obtain ⟨_, h1, h2⟩ := h; unfold left; omega
theorem rows_le {α : Type} {c : α → Nat → D} {sz n : Nat} {f : Nat → Nat → D} {l : List α} (d : α) (hn : n = l.length) (h : Rows c sz f l) : V.le (.d (.sl n sz f)) (.d (.sl l.length sz fun i => c (l.getD i d))) := by
  subst hn; exact slV_le (h.getD d)
/-- a charge, behind its word -/
def chH (L : List Tok) (p : Ps) : Ps := wantP L (windowP L (tokenP L p 1)) bOpen
def chK (L : List Tok) (p : Ps) : Ps := optP L (optP L (chH L p) bAllow) bBlock
def chT (L : List Tok) (p : Ps) : Ps := wantP L (kindP L (chK L p)) bOpen
def chR (L : List Tok) (p : Ps) : Ps := wantP L (wantP L (tiersGo L L.length (chT L p) []).2 bRest) bRate
def chM (L : List Tok) (p : Ps) : Ps := wantP L (wantP L (wantP L (numberP L (chR L p) 6 1000000000000) bSemi) bClose) bRound
def chA (L : List Tok) (p : Ps) : Ps := wantP L (modeP L (chM L p)) bSemi
def chargeP (L : List Tok) (p : Ps) : Ps := wantP L (ajsGo L L.length (chA L p) []).2 bClose
def chargeV (L : List Tok) (p : Ps) (line col : Int) : Ch :=
  ⟨tokenV L p 1, windowV L (tokenP L p 1), optV L (chH L p) bAllow 0, optV L (optP L (chH L p) bAllow) bBlock 1, 1 + oneV L (chK L p) 0 wKinds,
    (tiersGo L L.length (chT L p) []).1 ++ [⟨0, numberV L (chR L p) 6 1000000000000⟩], modeV L (chM L p), (ajsGo L L.length (chA L p) []).1, line, col⟩
end Po
