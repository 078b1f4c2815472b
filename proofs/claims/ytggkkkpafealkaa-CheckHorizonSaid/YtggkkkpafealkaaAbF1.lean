/- An operation in a region: its guard, and the slot that it writes. -/
import Derived.Test.YtggkkkpafealkaaAbE6
namespace Go.Ab
open Go
variable {P : Program} {E : Env} {g : G} {w : World} {a : Act} {st : St} {o : Oper} {ops : Array Oper}
theorem put_tmps (a : Act) (dst : Option Nat) (v : Value) : (a.put dst v).tmps = match dst with | some d => a.tmps.setIfInBounds d v | none => a.tmps := by cases dst <;> rfl
theorem RepG.put (h : RepG E g w a st) {x : A} {v : Value} (hx : RepA g w x v) (dst : Option Nat) : RepG E g w (a.put dst v) (st.put dst x) := by
  cases dst with
  | none => exact h
  | some d =>
    have hm : (st.put (some d) x).mem = st.mem := by unfold St.put; simp only; split <;> rfl
    have hn : (st.put (some d) x).nt = st.nt := by unfold St.put; simp only; split <;> rfl
    refine ⟨h.df, by rw [hm]; exact h.prb, by rw [hm]; exact h.prc, ?_, ?_, by rw [hm]; exact h.box, by rw [hm]; exact h.chain, ?_, by rw [hm]; exact h.ownb, by rw [hm]; exact h.ownc, h.os, h.tape, h.out, h.size, h.old, h.sub, h.new, h.bnd, by rw [hm]; exact h.par, h.pbl⟩
    · rw [hn]; show (a.tmps.setIfInBounds d v).size = _; simp [h.nt]
    · intro t
      show RepA g w _ ((a.tmps.setIfInBounds d v).getD t undef)
      by_cases hd : d < st.nt
      · have e : (st.put (some d) x).sl = upd st.sl d x := by
          unfold St.put; simp only; rw [show Nat.blt d st.nt = true from Nat.ble_eq_true_of_le hd]
        rw [e, upd_apply]
        have hd' : d < a.tmps.size := by rw [h.nt]; exact hd
        by_cases ht : t = d
        · subst ht; rw [if_pos rfl]; simp [hd']; exact hx
        · rw [if_neg ht]
          have : (a.tmps.setIfInBounds d v).getD t undef = a.tmps.getD t undef := by
            simp [Array.getElem?_setIfInBounds_ne (Ne.symm ht)]
          rw [this]; exact h.sl t
      · have hb : Nat.blt d st.nt = false := by
          cases hb : Nat.blt d st.nt with
          | false => rfl
          | true => exact absurd (Nat.le_of_ble_eq_true hb) hd
        have e : (st.put (some d) x).sl = st.sl := by unfold St.put; simp only; rw [hb]
        rw [e]
        have hd' : ¬ d < a.tmps.size := by rw [h.nt]; exact hd
        rw [Array.setIfInBounds_eq_of_size_le (by omega)]; exact h.sl t
    · intro k l b hk hl
      exact h.inj k l b (by unfold Own at *; rw [hm] at hk; exact hk) (by unfold Own at *; rw [hm] at hl; exact hl)
theorem RepG.getD_some {t : Nat} {v : Value} (h : a.tmps.getD t undef = v) (hv : v ≠ undef) : a.tmps[t]? = some v := by
  by_cases ht : t < a.tmps.size
  · simp [ht] at h ⊢; exact h
  · simp [ht] at h; exact absurd h.symm hv
theorem guard_spec (h : RepG E g w a st) {gs : List Bool} (hg : guardOf st ops o = some gs) : Region.wanted o (yielded ops a.tmps) = allB gs := by
  unfold guardOf at hg
  split at hg
  · rename_i hn; cases hg; unfold Region.wanted; rw [hn]; rfl
  · rename_i j want hgd
    split at hg
    · rename_i oj hj
      split at hg
      · rename_i t ht
        have hs := h.sl t
        have hy : yielded ops a.tmps j = match a.tmps[t]? with | some (.bool b) => some b | _ => none := by
          unfold yielded; rw [hj]; simp only [Option.bind_some, ht]; rfl
        have plain : ∀ c, st.sl t = .d (.bool c) → Region.wanted o (yielded ops a.tmps) = (c == want) := by
          intro c e
          rw [e] at hs
          have := RepG.getD_some (v := .bool c) hs (by simp [undef])
          unfold Region.wanted; rw [hgd]; simp only; rw [hy, this]
          cases want <;> cases c <;> rfl
        have opt : ∀ q c, st.sl t = .opt q (.d (.bool c)) → Region.wanted o (yielded ops a.tmps) = ((c == want) && allB q) := by
          intro q c e
          rw [e] at hs
          unfold Region.wanted; rw [hgd]; simp only; rw [hy]
          cases hq : allB q with
          | true =>
            have := RepG.getD_some (v := .bool c) (hs.1 hq) (by simp [undef])
            rw [this]; cases want <;> cases c <;> rfl
          | false =>
            have h2 := hs.2 hq
            have : (match a.tmps[t]? with | some (.bool b) => some b | _ => none) = (none : Option Bool) := by
              split
              · rename_i b hb; simp [hb, undef] at h2
              · rfl
            rw [this]; cases want <;> cases c <;> rfl
        split at hg
        · rename_i c e; cases hg; rw [plain c e]; cases c <;> rfl
        · rename_i c e; cases hg; rw [plain c e]; cases c <;> rfl
        · rename_i q c e; cases hg; rw [opt q c e]; cases c <;> simp [allB]
        · rename_i q c e; cases hg; rw [opt q c e]; cases c <;> simp [allB]
        · cases hg
      · cases hg
    · cases hg
/-- an operation that is no call of a function -/
theorem aop_ok {Q : Exit → Act → World → Prop} {K : Act → World → Prop} {i : Nat} {r : Rs} (hi : ops[i]? = some o) (h : aop P ops st o = some r) (hc : ∀ b ∈ r.cond, b = true) (him : ImpsOk r.imps) (hr : RepG E g w a st)
    (k : ∀ a' w', RepS E w' a' (r.app st o.dst) → K a' w') : wpOp P ops Q i K a w := by
  have fin : ∀ (r : Rs) (st0 : St), st0 = r.mem st → MemOk P E g w a st a.eval o r → (∀ a' w', RepS E w' a' (st0.put o.dst r.val) → K a' w') → o.wp P a w K Q := by
    rintro r _ rfl ⟨v, w', g', hrun, _, hv, hg⟩ k
    unfold Oper.wp
    rcases hrun with hrun | ⟨hrun, rfl⟩
    · rw [hrun]; exact k _ _ ⟨g', hg.put hv o.dst⟩
    · rw [hrun]; exact k _ _ ⟨g', hg.put hv o.dst⟩
  unfold wpOp
  rw [hi]
  simp only
  unfold aop at h
  split at h
  · rename_i hg
    have hw := guard_spec (ops := ops) hr hg
    rw [hw, if_pos (show allB [] = true from rfl)]
    exact .inl (fin r _ rfl (aopS_ok hr h rfl hc him) k)
  · rename_i b bs hg
    have hw := guard_spec (ops := ops) hr hg
    split at h
    · rename_i r' hr'
      split at h
      · rename_i hwr
        cases h
        rw [hw]
        cases hb : allB (b :: bs) with
        | true =>
          rw [if_pos rfl]
          obtain ⟨v, w', g', hrun, hs, hv, hgg⟩ := aopS_ok (P := P) hr hr' hb hc him
          refine .inl (fin ⟨.opt (b :: bs) r'.val, none, r'.rd, r'.cond, r'.imps⟩ st rfl ⟨v, w', g', hrun, hs, ⟨fun _ => hv, fun h => by rw [hb] at h; cases h⟩, ?_⟩ k)
          have : r'.mem st = st := by unfold Rs.mem; rw [hwr]
          rw [this] at hgg; exact hgg
        | false =>
          rw [if_neg (by simp)]
          exact k _ _ ⟨g, hr.put (x := .opt (b :: bs) r'.val) (v := undef) ⟨fun h => (by rw [hb] at h; cases h), fun _ => rfl⟩ o.dst⟩
      · cases h
    · cases h
  · cases h
end Go.Ab
