/- A region's operations, one behind the other; in whatever order the edges allow. -/
import Derived.Test.YtggkkkpafealkaaAbH2
namespace Go.Ab
open Go
variable {P : Program} {E : Env} {g : G} {w : World} {a : Act} {st : St} {o : Oper} {ops : Array Oper} {Φ : Calls'}
def SoundΦ (P : Program) (Φ : Calls') : Prop := ∀ f as bs r bs', Φ f as bs r bs' → CallOk P f as bs r bs'
/-- one operation of a region, and its footprint -/
inductive OpS (P : Program) (Φ : Calls') (ops : Array Oper) (o : Oper) (st : St) : St → Fp → Prop
  | plain {r : Rs} : isCall o.op = none → aop P ops st o = some r → (∀ b ∈ r.cond, b = true) → ImpsOk r.imps → OpS P Φ ops o st (r.app st o.dst) r.fp
  | call {c f as ks bs r bs' gs} : isCall o.op = some c → callOf st c = some (f, as, ks, bs) → guardOf st ops o = some gs → allB gs = true → ImpsOk (gOfs st gs o.op.operands.toList) → Φ f as bs r bs' → OpS P Φ ops o st ((setBoxes st ks bs').put o.dst r) ⟨ks, ks⟩
  | callG {c f as r gs} : isCall o.op = some c → callOf st c = some (f, as, [], []) → guardOf st ops o = some gs → ImpsOk (gOfs st gs o.op.operands.toList) → (allB gs = true → Φ f as [] r []) → OpS P Φ ops o st (st.put o.dst (.opt gs r)) ⟨[], []⟩
  | skip {c gs} : isCall o.op = some c → guardOf st ops o = some gs → allB gs = false → OpS P Φ ops o st (st.put o.dst (.opt [false] .undef)) ⟨[], []⟩
inductive RunO (P : Program) (Φ : Calls') (ops : Array Oper) : List Nat → St → St → List Fp → Prop
  | nil {s : St} : RunO P Φ ops [] s s []
  | cons {i : Nat} {is : List Nat} {o' : Oper} {s st1 st2 : St} {fp : Fp} {fps : List Fp} : ops[i]? = some o' → OpS P Φ ops o' s st1 fp → RunO P Φ ops is st1 st2 fps → RunO P Φ ops (i :: is) s st2 (fp :: fps)
theorem conjB_ok : ∀ {cs : List Bool} {c : Bool}, conjB c cs = true → ∀ b ∈ c :: cs, b = true
  | [], c, h, b, hb => by rcases List.mem_cons.1 hb with rfl | hb; exact h; cases hb
  | d :: cs, c, h, b, hb => by
    unfold conjB at h; rw [Bool.and_eq_true] at h
    rcases List.mem_cons.1 hb with rfl | hb
    · exact h.1
    · exact conjB_ok h.2 b hb
theorem needs_run {cs : List Bool} {t : T} {e : Ex} {st : St} (h : RunT P Φ (needs cs t) e st) : (∀ b ∈ cs, b = true) ∧ RunT P Φ t e st := by
  cases cs with
  | nil => exact ⟨fun _ hb => (by cases hb), h⟩
  | cons c cs => cases h with | need h1 h2 => exact ⟨conjB_ok h1, h2⟩
theorem owed_run {cs : List Bool} {im : List (List Bool × List Bool)} {t : T} {e : Ex} {st : St} (h : RunT P Φ (owed cs im t) e st) : (∀ b ∈ cs, b = true) ∧ ImpsOk im ∧ RunT P Φ t e st := by
  cases im with
  | nil => obtain ⟨h1, h2⟩ := needs_run h; exact ⟨h1, fun _ hp => (by cases hp), h2⟩
  | cons p l => cases h with | imps h1 h2 => obtain ⟨h3, h4⟩ := needs_run h2; exact ⟨h3, h1, h4⟩
theorem callOf_nil {c : Call} {f : Nat} {as : List A} {bs : List (List D)} {s : St} (h : callOf s c = some (f, as, [], bs)) : bs = [] := by
  unfold callOf at h
  split at h
  · split at h
    · dsimp only at h
      split at h
      · rename_i h1 h2
        simp only [Option.some.injEq, Prod.mk.injEq] at h
        obtain ⟨_, _, hk, hb⟩ := h
        rw [hk] at h2; cases h2; exact hb.symm
      · cases h
    · cases h
  · cases h
theorem exOps_run {draw : Bool} : ∀ {l : List Oper} {k : Nat} {st : St} {acc : List Fp} {cs : List Bool} {im : List (List Bool × List Bool)} {e : Ex} {st' : St}, (∀ j, l[j]? = ops[k + j]?) → RunT P Φ (exOps P ops draw l st acc cs im) e st' →
    ∃ fps, RunO P Φ ops (List.range' k l.length) st st' fps ∧ e = .normal ∧ (∀ b ∈ cs, b = true) ∧ ImpsOk im ∧ (draw = true → edgesOk ops = true ∧ fpOk ops 0 (acc.reverse ++ fps) = true) := by
  intro l
  induction l with
  | nil =>
    intro k st acc cs im e st' _ h
    unfold exOps at h
    obtain ⟨h1, h2, h⟩ := owed_run h
    split at h
    · cases h; exact ⟨[], .nil, rfl, h1, h2, fun h => by cases h⟩
    · split at h
      · rename_i hb
        cases h
        rw [Bool.and_eq_true] at hb
        exact ⟨[], .nil, rfl, h1, h2, fun _ => ⟨hb.1, by rw [List.append_nil]; exact hb.2⟩⟩
      · cases h
  | cons o os ih =>
    intro k st acc cs im e st' hl h
    have ho : ops[k]? = some o := by have := hl 0; simp at this; exact this.symm
    have hl' : ∀ j, os[j]? = ops[k + 1 + j]? := fun j => by have := hl (j + 1); simp at this; rw [this]; congr 1; omega
    have step : ∀ {st1 : St} {fp : Fp} {cs' : List Bool} {im' : List (List Bool × List Bool)}, ((∀ b ∈ cs', b = true) → ImpsOk im' → OpS P Φ ops o st st1 fp ∧ (∀ b ∈ cs, b = true) ∧ ImpsOk im) → RunT P Φ (exOps P ops draw os st1 (fp :: acc) cs' im') e st' →
        ∃ fps, RunO P Φ ops (List.range' k (o :: os).length) st st' fps ∧ e = .normal ∧ (∀ b ∈ cs, b = true) ∧ ImpsOk im ∧ (draw = true → edgesOk ops = true ∧ fpOk ops 0 (acc.reverse ++ fps) = true) := by
      intro st1 fp cs' im' h1 h2
      obtain ⟨fps, h3, h4, hc, hi, h5⟩ := ih hl' h2
      obtain ⟨h1, hc', hi'⟩ := h1 hc hi
      refine ⟨fp :: fps, .cons ho h1 h3, h4, hc', hi', fun hd => ?_⟩
      obtain ⟨h6, h7⟩ := h5 hd
      refine ⟨h6, ?_⟩
      rw [List.reverse_cons, List.append_assoc] at h7; exact h7
    have appl : ∀ {im' : List (List Bool × List Bool)}, ImpsOk (im ++ im') → ImpsOk im ∧ ImpsOk im' := fun h => ⟨fun p hp => h p (List.mem_append_left _ hp), fun p hp => h p (List.mem_append_right _ hp)⟩
    unfold exOps at h
    split at h
    · rename_i c hc
      split at h
      · rename_i f as ks bs hco
        split at h
        · rename_i hg
          cases h with
          | call h1 h2 => exact step (fun q1 q2 => ⟨.call hc hco hg rfl (appl q2).2 h1, q1, (appl q2).1⟩) h2
        · rename_i b bs' hg
          split at h
          · have hb : bs = [] := callOf_nil hco
            subst hb
            cases h with
            | callG h1 h2 => exact step (fun q1 q2 => ⟨.callG hc hco hg (appl q2).2 h1, q1, (appl q2).1⟩) h2
          · cases h with
            | brT h1 h2 =>
              cases h2 with
              | call h2 h3 => exact step (fun q1 q2 => ⟨.call hc hco hg h1 (appl q2).2 h2, q1, (appl q2).1⟩) h3
            | brF h1 h2 => exact step (fun q1 q2 => ⟨.skip hc hg h1, q1, q2⟩) h2
        · cases h
      · split at h
        · rename_i b hg
          cases h with
          | need h1 h2 =>
            have hb : allB b = false := by simpa using h1
            exact step (fun q1 q2 => ⟨.skip hc hg hb, q1, q2⟩) h2
        · cases h
    · rename_i hc
      split at h
      · rename_i r hr
        exact step (fun q1 q2 => ⟨.plain hc hr (fun b hb => q1 b (List.mem_append_right _ hb)) (appl q2).2, fun b hb => q1 b (List.mem_append_left _ hb), (appl q2).1⟩) h
      · cases h
/-- one operation is sound -/
theorem OpS.sound {Q : Exit → Act → World → Prop} {K : Act → World → Prop} {i : Nat} {st1 : St} {fp : Fp} (hΦ : SoundΦ P Φ) (hr : RepS E w a st) (hi : ops[i]? = some o) (h : OpS P Φ ops o st st1 fp) (k : ∀ a' w', RepS E w' a' st1 → K a' w') : wpOp P ops Q i K a w := by
  obtain ⟨g, hg⟩ := hr
  cases h with
  | plain h1 h2 h3 h4 => exact aop_ok hi h2 h3 h4 hg k
  | call h1 h2 h3 h4 h5 h6 =>
    have hw := guard_spec (ops := ops) hg h3
    unfold wpOp
    rw [hi]; simp only
    rw [hw, if_pos h4]
    exact .inl (call_sound h1 h2 (hΦ _ _ _ _ _ h6) hg (fun _ _ _ h => h) k fun x hx => gOfs_ok h5 hx h4)
  | @callG c f as r gs h1 h2 h3 h4 h5 =>
    have hw := guard_spec (ops := ops) hg h3
    unfold wpOp
    rw [hi]; simp only
    rw [hw]
    cases hgs : allB gs with
    | true =>
      rw [if_pos rfl]
      exact .inl (call_sound h1 h2 (hΦ _ _ _ _ _ (h5 hgs)) hg (x' := .opt gs r) (fun _ _ _ h => ⟨fun _ => h, fun h' => by rw [hgs] at h'; cases h'⟩) k fun x hx => gOfs_ok h4 hx hgs)
    | false =>
      rw [if_neg (by simp)]
      exact k _ _ ⟨g, hg.put (x := .opt gs r) (v := undef) ⟨fun h => (by rw [hgs] at h; cases h), fun _ => rfl⟩ o.dst⟩
  | skip h1 h2 h3 =>
    have hw := guard_spec (ops := ops) hg h2
    unfold wpOp
    rw [hi]; simp only
    rw [hw, if_neg (by rw [h3]; simp)]
    exact k _ _ ⟨g, hg.put (x := .opt [false] .undef) (v := undef) ⟨fun h => (by cases h), fun _ => rfl⟩ o.dst⟩
theorem RunO.sound {Q : Exit → Act → World → Prop} (hΦ : SoundΦ P Φ) {l : List Nat} {st' : St} {fps : List Fp} (h : RunO P Φ ops l st st' fps) : ∀ {a : Act} {w : World}, RepS E w a st → (∀ a' w', RepS E w' a' st' → Q .normal a' w') → wpOps P ops Q l a w := by
  induction h with
  | nil => exact fun hr k => k _ _ hr
  | cons h1 h2 _ ih =>
    intro a w hr k
    rw [wpOps_cons]
    exact h2.sound hΦ hr h1 fun a' w' hr' => ih hr' k
theorem drew_rep {n : Nat} (h : RepS E w a st) : RepS E { w with drawn := n } a st := by
  obtain ⟨g, h⟩ := h
  have hs : Step g w g { w with drawn := n } := ⟨fun b i hs => ⟨hs, rfl⟩, fun k hk => ⟨hk, rfl⟩, fun k hk => ⟨hk, .inl ⟨rfl, rfl, rfl, rfl⟩⟩⟩
  exact ⟨g, h.df, h.prb, h.prc, h.nt, fun t => (h.sl t).step hs, fun k cs hk => by obtain ⟨vs, T, h1, h2, h3⟩ := h.box k cs hk; exact ⟨vs, T, h1, h2.mono fun _ _ hx => hx.step hs, h3⟩, h.chain, h.inj, h.ownb, h.ownc, h.os, h.tape, h.out, h.size, h.old, h.sub, h.new, h.bnd, h.par, h.pbl⟩
end Go.Ab
