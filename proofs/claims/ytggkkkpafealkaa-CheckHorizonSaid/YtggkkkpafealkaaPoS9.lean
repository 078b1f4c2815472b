/- What the document's functions compute, in plain words: the parser's greater steps. -/
import Derived.Test.YtggkkkpafealkaaPoS8
namespace Po
open Go Go.Ab
def dayV (L : List Tok) (p : Ps) : Dt := dv (dparse (tokenV L p 4))
def dayP (L : List Tok) (p : Ps) : Ps := tokenP L p 4
theorem Pok.day {L : List Tok} {p : Ps} (h : Pok L p) : Pok L (dayP L p) := h.token (by decide)
structure Wn where (has : Bool) (f t : Dt)
  deriving DecidableEq
def Wn.cs (w : Wn) : List D := [.bool w.has, .int .i64 w.f.y, .int .i64 w.f.m, .int .i64 w.f.d, .int .i64 w.t.y, .int .i64 w.t.m, .int .i64 w.t.d]
def Wn.z : Wn := ⟨false, Dt.z, Dt.z⟩
def bFrom : Bs := [102, 114, 111, 109]
def bTo : Bs := [116, 111]
def windowV (L : List Tok) (p : Ps) : Wn := match on L p bFrom with | true => ⟨true, dayV L (takeP L p bFrom), dayV L (wantP L (dayP L (takeP L p bFrom)) bTo)⟩ | false => Wn.z
def windowP (L : List Tok) (p : Ps) : Ps := match on L p bFrom with | true => dayP L (wantP L (dayP L (takeP L p bFrom)) bTo) | false => p
theorem Pok.window {L : List Tok} {p : Ps} (h : Pok L p) : Pok L (windowP L p) := by
  unfold windowP; split
  · exact h.take.day.want.day
  · exact h
def oneV (L : List Tok) (p : Ps) : Int → List Bs → Int | _, [] => -1 | i, w :: ws => match on L p w with | true => i | false => oneV L p (i + 1) ws
def oneP (L : List Tok) (p : Ps) : List Bs → Ps | [] => p | w :: ws => match on L p w with | true => takeP L p w | false => oneP L p ws
theorem Pok.one {L : List Tok} {p : Ps} (h : Pok L p) : ∀ {ws : List Bs}, Pok L (oneP L p ws)
  | [] => h
  | w :: ws => by unfold oneP; split
                  · exact h.take
                  · exact h.one
def wModes : List Bs := [[102, 108, 111, 111, 114], [99, 101, 105, 108], [104, 97, 108, 102, 117, 112], [104, 97, 108, 102, 101, 118, 101, 110]]
def wKinds : List Bs := [[103, 114, 97, 100, 117, 97, 116, 101, 100], [118, 111, 108, 117, 109, 101]]
def wAdj : List Bs := [[112, 101, 114, 99, 101, 110, 116], [99, 97, 112], [109, 105, 110, 105, 109, 117, 109], [97, 100, 100]]
def wItems : List Bs := [[109, 101, 116, 101, 114], [102, 101, 101], [99, 104, 97, 114, 103, 101]]
theorem one_range {L : List Tok} {p : Ps} : ∀ {ws : List Bs} {i : Int}, 0 ≤ i → -1 ≤ oneV L p i ws ∧ oneV L p i ws < i + ws.length
  | [], i, h => by simp [oneV]; omega
  | w :: ws, i, h => by
    unfold oneV; split
    · simp; omega
    · have := @one_range L p ws (i + 1) (by omega); simp; omega
def modeP (L : List Tok) (p : Ps) : Ps := match decide (oneV L p 0 wModes < 0) with | true => wrongP L (oneP L p wModes) 4 | false => oneP L p wModes
def modeV (L : List Tok) (p : Ps) : Int := if 0 > oneV L p 0 wModes then 0 else oneV L p 0 wModes
theorem Pok.mode {L : List Tok} {p : Ps} (h : Pok L p) : Pok L (modeP L p) := by
  unfold modeP; split
  · exact h.one.wrong
  · exact h.one
theorem one_drop {L : List Tok} {p : Ps} {ws : List Bs} {i : Int} (h0 : 0 ≤ i) (h : i < ws.length) :
    oneV L p i (ws.drop i.toNat) = (match on L p (ws.getD i.toNat []) with | true => i | false => oneV L p (i + 1) (ws.drop (i + 1).toNat)) ∧
    oneP L p (ws.drop i.toNat) = (match on L p (ws.getD i.toNat []) with | true => takeP L p (ws.getD i.toNat []) | false => oneP L p (ws.drop (i + 1).toNat)) := by
  have h : i.toNat < ws.length := by omega
  rw [List.drop_eq_getElem_cons h, show (i + 1).toNat = i.toNat + 1 by omega, oneV, oneP]; simp [h]
end Po
