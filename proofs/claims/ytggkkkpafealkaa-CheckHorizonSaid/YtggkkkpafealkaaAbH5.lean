/- Code, functions: what the tree says holds of the machine. -/
import Derived.Test.YtggkkkpafealkaaAbH4
namespace Go.Ab
open Go
variable {P : Program} {E : Env} {w : World} {a : Act} {Φ : Calls'}
def exOf : Ex → Exit | .normal => .normal | .exit id => .exit id | .ret => .ret
def Post (E : Env) (e : Ex) (st : St) : Exit → Act → World → Prop := fun x a w => x = exOf e ∧ RepS E w a st
/-- a loop, from its round's head on -/
def wpRounds (P : Program) (c : Code) (Q : Exit → Act → World → Prop) (a : Act) (w : World) : Prop :=
  ∀ (b : Frame) (k : List Item) (cs : List Frame), ∃ e a' w', Q e a' w' ∧ Arrives P (lone (b.at a (.code c :: .inLoop c :: k)) cs w) b k cs e a' w'
theorem loop_sound {c : Code} (hc : ∀ {st e st' a w}, RunT P Φ (ex P c st) e st' → RepS E w a st → c.wp P (Post E e st') a w) {x : T} {e : Ex} {st' : St} (h : RunT P Φ x e st') :
    ∀ {st : St} {a : Act} {w : World}, x = .loop c st (fun e s => .done e s) → RepS E w a st → wpRounds P c (Post E e st') a w := by
  induction h with
  | @loopX c0 st st0 k e1 st1 e st2 h1 h2 h3 h4 =>
    rintro s a w hx hr
    simp only [T.loop.injEq] at hx
    obtain ⟨rfl, rfl, rfl⟩ := hx
    cases h4
    intro b k cs
    obtain ⟨x, a1, w1, ⟨rfl, hq⟩, harr⟩ := hc h2 (h1 _ _ _ hr) b (.inLoop c0 :: k) cs
    refine ⟨exOf e1, a1, w1, ⟨rfl, hq⟩, .pass (x := .inLoop c0) rfl (fun _ _ => .inl ?_) harr⟩
    cases e1
    · exact absurd rfl h3
    · intro h; cases h
    · intro h; cases h
  | @loopN c0 st st0 k st1 e st2 h1 h2 h4 ih1 ih2 =>
    rintro s a w hx hr
    simp only [T.loop.injEq] at hx
    obtain ⟨rfl, rfl, rfl⟩ := hx
    intro b k cs
    obtain ⟨x, a1, w1, ⟨rfl, hq⟩, harr⟩ := hc h2 (h1 _ _ _ hr) b (.inLoop c0 :: k) cs
    obtain ⟨e2, a2, w2, hq2, harr2⟩ := ih2 rfl hq b k cs
    exact ⟨e2, a2, w2, hq2, .of_steps (Steps.trans harr (.one step_inLoop)) harr2⟩
  | _ => intro _ _ _ hx; cases hx
theorem code_sound (hmix : P.follows .mixedOrders = true) (hΦ : SoundΦ P Φ) : ∀ (c : Code) {st : St} {e : Ex} {st' : St} {a : Act} {w : World}, RunT P Φ (ex P c st) e st' → RepS E w a st → c.wp P (Post E e st') a w := by
  intro c
  induction c with
  | skip => intro st e st' a w h hr; cases h; exact wp_skip ⟨rfl, hr⟩
  | ret => intro st e st' a w h hr; cases h; exact wp_ret ⟨rfl, hr⟩
  | exit id => intro st e st' a w h hr; cases h; exact wp_exit ⟨rfl, hr⟩
  | region id ops draw =>
    intro st e st' a w h hr
    obtain ⟨fps, h1, rfl, _, _, h2⟩ := exOps_run (k := 0) (fun j => by simp) h
    rw [Array.length_toList] at h1
    cases draw with
    | false =>
      refine wp_region ?_
      rw [List.range_eq_range']
      exact h1.sound hΦ hr fun a' w' hr' => ⟨rfl, hr'⟩
    | true =>
      obtain ⟨h3, h4⟩ := h2 rfl
      exact draw_sound hmix hΦ h1 h3 (by simpa using h4) hr fun a' w' hr' => ⟨rfl, hr'⟩
  | seq x y ihx ihy =>
    intro st e st' a w h hr
    obtain ⟨e1, s1, s2, q1, q2, q3⟩ := RunT.bind_inv h (ex P x st) _ rfl
    refine wp_seq (wp_mono (ihx q1 hr) ?_)
    rintro x' a' w' ⟨rfl, hr'⟩
    cases e1 with
    | normal => exact ihy q3 (q2 _ _ _ hr')
    | exit i => cases q3; exact ⟨rfl, q2 _ _ _ hr'⟩
    | ret => cases q3; exact ⟨rfl, q2 _ _ _ hr'⟩
  | cond c x y ihx ihy =>
    intro st e st' a w h hr
    unfold ex at h
    split at h
    · rename_i b hb
      obtain ⟨g, hg⟩ := hr
      have hv := ev_rep hg c
      rw [hb] at hv
      cases h with
      | brT h1 h2 => subst h1; exact wp_cond (t := true) hv (ihx h2 ⟨g, hg⟩)
      | brF h1 h2 => subst h1; exact wp_cond (t := false) hv (ihy h2 ⟨g, hg⟩)
    · cases h
  | block id x ih =>
    intro st e st' a w h hr
    obtain ⟨e1, s1, s2, q1, q2, q3⟩ := RunT.bind_inv h (ex P x st) _ rfl
    refine wp_block (wp_mono (ih q1 hr) ?_)
    rintro x' a' w' ⟨rfl, hr'⟩
    have hr2 := q2 _ _ _ hr'
    cases e1 with
    | normal => cases q3; exact ⟨rfl, hr2⟩
    | ret => cases q3; exact ⟨rfl, hr2⟩
    | exit i =>
      simp only at q3
      show Exit.inBlock id _ (.exit i) _ _
      unfold Exit.inBlock
      split at q3
      · rename_i hb
        cases q3
        simp only [if_pos (Nat.eq_of_beq_eq_true hb)]; exact ⟨rfl, hr2⟩
      · rename_i hb
        cases q3
        have hne : i ≠ id := fun e => by subst e; rw [Nat.beq_refl] at hb; cases hb
        simp only [if_neg hne]; exact ⟨rfl, hr2⟩
  | loop x ih =>
    intro st e st' a w h hr
    have := loop_sound (E := E) (fun h1 h2 => ih h1 h2) h rfl hr
    intro b k cs
    obtain ⟨e', a', w', hq, harr⟩ := this b k cs
    exact ⟨e', a', w', hq, .of_steps (.one step_loop) harr⟩
  | _ => intro st e st' a w h hr; cases h
/-! ### results -/
def resV (P : Program) (st : St) : ResultVar → Option V
  | .tmp t => match st.sl t with | .d x => some (.d x) | .agg cs => some (.agg cs) | .own n sz f _ => some (.d (.sl n sz f)) | _ => none
  | .cell t ty =>
    match st.sl t, P.underlying ty, tsz P ty with
    | .ptr k off, some d, some n =>
      match st.mem k with
      | some (.box cs) =>
        match isAggD d with
        | true => match Nat.ble (off + n) cs.length, toDs ((cs.drop off).take n) with | true, some ds => some (.agg ds) | _, _ => none
        | false => match cs[off]? with | some a => (match toD a with | some d => some (.d d) | none => none) | none => none
      | _ => none
    | _, _, _ => none
def resVs (P : Program) (st : St) : List ResultVar → Option (List V)
  | [] => some []
  | r :: rs => match resV P st r, resVs P st rs with | some v, some vs => some (v :: vs) | _, _ => none
def tupA : List V → A | [v] => ofV v | vs => .tup vs
def boxesBack (mem : Nat → Option M) : Nat → Nat → Option (List (List D))
  | 0, _ => some []
  | n + 1, i =>
    match mem (pk i) with
    | some (.box cs) => match toDs cs, boxesBack mem n (i + 1) with | some ds, some r => some (ds :: r) | _, _ => none
    | _ => none
def fin (P : Program) (fn : Func) (nb : Nat) (e : Ex) (st : St) : Option (A × List (List D)) :=
  match e with
  | .exit _ => none
  | _ => match resVs P st fn.results.toList, boxesBack st.mem nb 0 with | some vs, some bs => some (tupA vs, bs) | _, _ => none
theorem resV_run {g : G} {st : St} {r : ResultVar} {v : V} (h : RepG E g w a st) (hr : resV P st r = some v) :
    ∃ u, (match r with | .tmp t => (pure (a.tmps.getD t undef) : Sem Value) | .cell t ty => do loadVar ty (← asAddr (a.tmps.getD t undef))).run P w = .ok u w ∧ RepV w g.S v u := by
  cases r with
  | tmp t =>
    have hs := h.sl t
    simp only [resV] at hr
    split at hr <;> (try contradiction)
    · rename_i x e; cases hr; rw [e] at hs; exact ⟨_, rfl, hs⟩
    · rename_i cs e; cases hr; rw [e] at hs; exact ⟨_, rfl, hs⟩
    · rename_i n sz f t' e; cases hr; rw [e] at hs; exact ⟨_, rfl, hs.2.2.1⟩
  | cell t ty =>
    have hs := h.sl t
    simp only [resV] at hr
    split at hr <;> (try contradiction)
    rename_i k off d n e h1 h2
    rw [e] at hs
    split at hr <;> (try contradiction)
    rename_i cs hk
    let o : Oper := { dst := none, op := .load ty (.tmp t), type := 0, pos := "", after := #[], guard := none }
    have go : ∀ (x : A), aopV P st.mem st.ev none (.load ty (.tmp t)) = some { val := x, rd := some k } → ∃ u, (do loadVar ty (← asAddr (a.tmps.getD t undef)) : Sem Value).run P w = .ok u w ∧ RepA g w x u := by
      intro x hx
      obtain ⟨_, u, hu, hru⟩ := p_load (o := o) (ρv := a.eval) rfl rfl h (ev_rep h (.tmp t)) hx
      refine ⟨u, ?_, hru⟩
      rw [execOp] at hu
      have ee : a.eval (.tmp t) = .pointer (some ⟨g.β k, off, none⟩) := hs.1
      have ee' : a.tmps.getD t undef = .pointer (some ⟨g.β k, off, none⟩) := hs.1
      simp only [o, ee, Instr.loadAt, Instr.sureAddr, Sem.run_bind, Sem.run_pure, Result.andThen_ok] at hu
      simp only [ee', asAddr, Sem.run_bind, Sem.run_pure, Result.andThen_ok]
      cases hl : (loadVar ty ⟨g.β k, off, none⟩).run P w with
      | ok u' w' => rw [hl] at hu; simp only [Result.andThen_ok, Result.ok.injEq, Next.value.injEq] at hu; obtain ⟨rfl, rfl⟩ := hu; rfl
      | halt x w' => rw [hl] at hu; cases hu
    have ev' : st.ev (.tmp t) = .ptr k off := e
    split at hr
    · rename_i hd
      split at hr <;> (try contradiction)
      rename_i ds hle hds
      cases hr
      obtain ⟨u, hu, hru⟩ := go (.agg ds) (by simp only [aopV, ev', h1, h2, hk, hd, hle, hds])
      exact ⟨u, hu, hru⟩
    · rename_i hd
      split at hr <;> (try contradiction)
      rename_i x hx
      split at hr <;> (try contradiction)
      rename_i dd hdd
      cases hr
      obtain ⟨u, hu, hru⟩ := go x (by simp only [aopV, ev', h1, h2, hk, hd, hx])
      exact ⟨u, hu, toD_rep hdd hru⟩
theorem resVs_run {g : G} {st : St} (h : RepG E g w a st) : ∀ {l : List ResultVar} {vs : List V}, resVs P st l = some vs →
    ∃ us : List Value, (l.mapM (m := Sem) fun | .tmp t => pure (a.tmps.getD t undef) | .cell t ty => do loadVar ty (← asAddr (a.tmps.getD t undef))).run P w = .ok us w ∧ RepL (RepV w g.S) vs us
  | [], vs, hr => by cases hr; exact ⟨[], rfl, rfl⟩
  | r :: l, vs, hr => by
    unfold resVs at hr
    split at hr <;> (try contradiction)
    rename_i v vs' h1 h2
    cases hr
    obtain ⟨u, hu, hru⟩ := resV_run h h1
    obtain ⟨us, hus, hrus⟩ := resVs_run h h2
    refine ⟨u :: us, ?_, u, us, rfl, hru, hrus⟩
    rw [List.mapM_cons]
    simp only [Sem.run_bind, Sem.run_pure]
    rw [hu]; simp only [Result.andThen_ok]
    rw [hus]; rfl
theorem tupA_rep {g : G} {vs : List V} {us : List Value} (h : RepL (RepV w g.S) vs us) : RepA g w (tupA vs) (if h : us.toArray.size = 1 then us.toArray[0] else .tuple us.toArray) ∧ DataRes (tupA vs) := by
  match vs, h with
  | [], h => cases h; exact ⟨⟨#[], rfl, rfl⟩, trivial⟩
  | [v], ⟨u, r, e, h1, h2⟩ => cases h2; subst e; exact ⟨ofV_rep h1, by cases v <;> trivial⟩
  | v1 :: v2 :: vs, h =>
    have hl := h.length
    refine ⟨?_, trivial⟩
    rw [dif_neg (by simp at hl ⊢; omega)]
    exact ⟨_, rfl, by simpa using h⟩
theorem results_run {g : G} {st : St} {fn : Func} {vs : List V} (h : RepG E g w a st) (hr : resVs P st fn.results.toList = some vs) : ∃ v, (results fn a.tmps).run P w = .ok v w ∧ RepA g w (tupA vs) v ∧ DataRes (tupA vs) := by
  obtain ⟨us, hu, hru⟩ := resVs_run h hr
  refine ⟨_, ?_, tupA_rep hru⟩
  unfold results
  simp only [Sem.run_bind]
  rw [Array.mapM_eq_mapM_toList, Sem.run_map]
  have : ∀ x : Result (List Value), x = .ok us w → (x.andThen fun a w' => Result.ok a.toArray w').andThen (fun a w' => Sem.run P (pure (if h : a.size = 1 then a[0] else Value.tuple a)) w') = .ok (if h : us.toArray.size = 1 then us.toArray[0] else .tuple us.toArray) w := by rintro _ rfl; rfl
  exact this _ hu
theorem boxesBack_spec {mem : Nat → Option M} : ∀ {n i : Nat} {bs : List (List D)}, boxesBack mem n i = some bs → bs.length = n ∧ ∀ (j : Nat) (ds : List D), bs[j]? = some ds → ∃ cs, mem (pk (i + j)) = some (.box cs) ∧ toDs cs = some ds
  | 0, _, bs, h => by cases h; exact ⟨rfl, fun j ds h => by simp at h⟩
  | n + 1, i, bs, h => by
    unfold boxesBack at h
    split at h <;> (try contradiction)
    rename_i cs hk
    split at h <;> (try contradiction)
    rename_i ds r h1 h2
    cases h
    obtain ⟨h3, h4⟩ := boxesBack_spec h2
    refine ⟨by simp [h3], fun j d hd => ?_⟩
    cases j with
    | zero => simp at hd; subst hd; exact ⟨cs, hk, h1⟩
    | succ j => simp at hd; obtain ⟨cs, h5, h6⟩ := h4 j d hd; exact ⟨cs, by rw [← h5]; congr 2; omega, h6⟩
/-! ### values that say less -/
def A.le (x y : A) : Prop := ∀ g w v, RepA g w x v → RepA g w y v
theorem A.le_refl (x : A) : A.le x x := fun _ _ _ h => h
def M.le : Option M → Option M → Prop
  | none, none => True
  | some (.chain u), some (.chain u') => u = u'
  | some (.box cs), some (.box cs') => ∀ g w vs, RepL (RepA g w) cs vs → RepL (RepA g w) cs' vs
  | _, _ => False
theorem M.le_box {x : Option M} {cs : List A} (h : M.le x (some (.box cs))) : ∃ cs0, x = some (.box cs0) ∧ ∀ g w vs, RepL (RepA g w) cs0 vs → RepL (RepA g w) cs vs := by
  cases x with
  | none => exact h.elim
  | some m => cases m with
    | box c => exact ⟨c, rfl, h⟩
    | chain u => exact h.elim
theorem M.le_chain {x : Option M} {u : Nat} (h : M.le x (some (.chain u))) : x = some (.chain u) := by
  cases x with
  | none => exact h.elim
  | some m => cases m with
    | box c => exact h.elim
    | chain u' => obtain rfl : u' = u := h; rfl
theorem M.le_box' {x : Option M} {cs : List A} (h : M.le (some (.box cs)) x) : ∃ cs', x = some (.box cs') := by
  cases x with
  | none => exact h.elim
  | some m => cases m with
    | box c => exact ⟨c, rfl⟩
    | chain u => exact h.elim
theorem M.le_chain' {x : Option M} {u : Nat} (h : M.le (some (.chain u)) x) : x = some (.chain u) := by
  cases x with
  | none => exact h.elim
  | some m => cases m with
    | box c => exact h.elim
    | chain u' => obtain rfl : u = u' := h; rfl
theorem le_vals {st st' : St} (hn : st.nt = st'.nt) (hs : ∀ t, A.le (st.sl t) (st'.sl t)) (hm : ∀ k, M.le (st.mem k) (st'.mem k)) : St.le st st' := by
  rintro E w a ⟨g, h⟩
  have own : ∀ {k b}, Own g st' k b → Own g st k b := by
    rintro k b (⟨cs, h1, h2⟩ | ⟨u, h1, h2, h3⟩)
    · obtain ⟨c, h3, _⟩ := M.le_box (h1 ▸ hm k); exact .inl ⟨c, h3, h2⟩
    · exact .inr ⟨u, M.le_chain (h1 ▸ hm k), h2, h3⟩
  refine ⟨g, h.df, fun k hk => ?_, fun k hk => ?_, hn ▸ h.nt, fun t => hs t _ _ _ (h.sl t), fun k cs hk => ?_, fun k u hk => h.chain k u (M.le_chain (hk ▸ hm k)), fun k l b h1 h2 => h.inj k l b (own h1) (own h2), fun k cs hk => ?_, fun k u hk => h.ownc k u (M.le_chain (hk ▸ hm k)), h.os, h.tape, h.out, h.size, h.old, h.sub, h.new, h.bnd, fun i cs hk => ?_, h.pbl⟩
  · obtain ⟨cs, h1⟩ := h.prb k hk; exact M.le_box' (h1 ▸ hm k)
  · obtain ⟨u, h1⟩ := h.prc k hk; exact ⟨u, M.le_chain' (h1 ▸ hm k)⟩
  · obtain ⟨c, h1, h2⟩ := M.le_box (hk ▸ hm k)
    obtain ⟨vs, T, h3, h4, h5⟩ := h.box k c h1
    exact ⟨vs, T, h3, h2 _ _ _ h4, h5⟩
  · obtain ⟨c, h1, _⟩ := M.le_box (hk ▸ hm k); exact h.ownb k c h1
  · obtain ⟨c, h1, _⟩ := M.le_box (hk ▸ hm (pk i)); exact h.par i c h1
/-- a row of data says less -/
def CsLe (xs ys : List D) : Prop := ∀ w S vs, RepL (RepD w S) xs vs → RepL (RepD w S) ys vs
def BsLe (bs bs' : List (List D)) : Prop := bs'.length = bs.length ∧ ∀ (i : Nat) (cs : List D), bs'[i]? = some cs → ∃ c, bs[i]? = some c ∧ CsLe c cs
theorem BsLe.refl (bs : List (List D)) : BsLe bs bs := ⟨rfl, fun _ cs h => ⟨cs, h, fun _ _ _ h => h⟩⟩
theorem repL_box {cs : List D} {g : G} {w : World} : ∀ {vs : List Value}, RepL (RepA g w) (cs.map .d) vs ↔ RepL (RepD w g.S) cs vs := by
  induction cs with
  | nil => intro vs; exact Iff.rfl
  | cons x xs ih =>
    intro vs
    constructor
    · rintro ⟨v, r, h1, h2, h3⟩; exact ⟨v, r, h1, h2, ih.1 h3⟩
    · rintro ⟨v, r, h1, h2, h3⟩; exact ⟨v, r, h1, h2, ih.2 h3⟩
theorem memOf_le {bs bs' : List (List D)} (h : BsLe bs bs') (k : Nat) : M.le (memOf bs k) (memOf bs' k) := by
  unfold memOf
  cases Nat.ble 100000 k with
  | false => trivial
  | true =>
    simp only
    cases h1 : bs'[k - 100000]? with
    | none =>
      have : bs[k - 100000]? = none := by rw [List.getElem?_eq_none_iff] at h1 ⊢; have := h.1; omega
      rw [this]; trivial
    | some cs =>
      obtain ⟨c, h2, h3⟩ := h.2 _ cs h1
      rw [h2]
      exact fun g w vs hr => repL_box.2 (h3 _ _ _ (repL_box.1 hr))
def ResLe (r0 r : A) : Prop := (DataRes r0 → DataRes r) ∧ A.le r0 r
/-! ### functions -/
/-- f, called with so much, comes back with so much, by calls that go at most n deep -/
def RunsN (P : Program) : Nat → Calls'
  | 0 => fun _ _ _ _ _ => False
  | n + 1 => fun f args bs r bs' => ∃ fn body s0 e st' r0 bs0, P.funcs[f]? = some fn ∧ fn.body = some body ∧ (fn.name == "runtime.NumGoroutine") = false ∧ args.length ≤ fn.ntmps ∧ St.le (initSt fn.ntmps args bs) s0 ∧
      RunT P (RunsN P n) (ex P body s0) e st' ∧ fin P fn bs.length e st' = some (r0, bs0) ∧ ResLe r0 r ∧ BsLe bs0 bs'
theorem RunsN.succ {n : Nat} : ∀ {f as bs r bs'}, RunsN P n f as bs r bs' → RunsN P (n + 1) f as bs r bs' := by
  induction n with
  | zero => intro f as bs r bs' h; exact h.elim
  | succ n ih =>
    rintro f as bs r bs' ⟨fn, body, s0, e, st', r0, bs0, h1, h2, h3, h4, h5, h6, h7⟩
    exact ⟨fn, body, s0, e, st', r0, bs0, h1, h2, h3, h4, h5, h6.mono fun _ _ _ _ _ h => ih h, h7⟩
theorem RunsN.le {n m : Nat} (h : n ≤ m) : ∀ {f as bs r bs'}, RunsN P n f as bs r bs' → RunsN P m f as bs r bs' := by
  induction h with
  | refl => exact fun h => h
  | step _ ih => exact fun h => (ih h).succ
def Runs (P : Program) : Calls' := fun f as bs r bs' => ∃ n, RunsN P n f as bs r bs'
theorem RunT.bound {t : T} {e : Ex} {st : St} (h : RunT P (Runs P) t e st) : ∃ n, RunT P (RunsN P n) t e st := by
  have up : ∀ {n m : Nat} {t : T} {e : Ex} {st : St}, n ≤ m → RunT P (RunsN P n) t e st → RunT P (RunsN P m) t e st := fun hnm h => h.mono fun _ _ _ _ _ h => h.le hnm
  induction h with
  | done => exact ⟨0, .done⟩
  | brT h1 _ ih => obtain ⟨n, h⟩ := ih; exact ⟨n, .brT h1 h⟩
  | brF h1 _ ih => obtain ⟨n, h⟩ := ih; exact ⟨n, .brF h1 h⟩
  | need h1 _ ih => obtain ⟨n, h⟩ := ih; exact ⟨n, .need h1 h⟩
  | imps h1 _ ih => obtain ⟨n, h⟩ := ih; exact ⟨n, .imps h1 h⟩
  | call h1 _ ih =>
    obtain ⟨n, h⟩ := ih; obtain ⟨m, hm⟩ := h1
    exact ⟨max n m, .call (hm.le (Nat.le_max_right _ _)) (up (Nat.le_max_left _ _) h)⟩
  | @callG gs _ _ _ _ _ _ h1 _ ih =>
    obtain ⟨n, h⟩ := ih
    cases hgs : allB gs with
    | true => obtain ⟨m, hm⟩ := h1 hgs; exact ⟨max n m, .callG (fun _ => hm.le (Nat.le_max_right _ _)) (up (Nat.le_max_left _ _) h)⟩
    | false => exact ⟨n, .callG (fun h => by rw [hgs] at h; cases h) h⟩
  | loopX h1 _ h2 _ ih1 ih2 =>
    obtain ⟨n, hn⟩ := ih1; obtain ⟨m, hm⟩ := ih2
    exact ⟨max n m, .loopX h1 (up (Nat.le_max_left _ _) hn) h2 (up (Nat.le_max_right _ _) hm)⟩
  | loopN h1 _ _ ih1 ih2 =>
    obtain ⟨n, hn⟩ := ih1; obtain ⟨m, hm⟩ := ih2
    exact ⟨max n m, .loopN h1 (up (Nat.le_max_left _ _) hn) (up (Nat.le_max_right _ _) hm)⟩
  | cutJ _ h1 _ ih1 ih2 =>
    obtain ⟨n, hn⟩ := ih1; obtain ⟨m, hm⟩ := ih2
    exact ⟨max n m, .cutJ (up (Nat.le_max_left _ _) hn) h1 (up (Nat.le_max_right _ _) hm)⟩
  | cutT h1 _ ih => obtain ⟨n, h⟩ := ih; exact ⟨n, .cutT h1 h⟩
  | cutF h1 _ ih => obtain ⟨n, h⟩ := ih; exact ⟨n, .cutF h1 h⟩
/-- a function's run, out of its body's -/
theorem Runs.mk {f : Nat} {args : List A} {bs bs' : List (List D)} {r : A} {fn : Func} {body : Code} {e : Ex} {st' : St} (h1 : P.funcs[f]? = some fn) (h2 : fn.body = some body) (h3 : (fn.name == "runtime.NumGoroutine") = false) (h4 : args.length ≤ fn.ntmps)
    (h5 : RunT P (Runs P) (ex P body (initSt fn.ntmps args bs)) e st') (h6 : fin P fn bs.length e st' = some (r, bs')) : Runs P f args bs r bs' := by
  obtain ⟨n, h⟩ := h5.bound
  exact ⟨n + 1, fn, body, _, e, st', r, bs', h1, h2, h3, h4, fun _ _ _ h => h, h, h6, ⟨fun h => h, A.le_refl _⟩, BsLe.refl _⟩
/-- what comes back may be told with less -/
theorem Runs.res {f : Nat} {args : List A} {bs bs0 bs' : List (List D)} {r0 r : A} (h : Runs P f args bs r0 bs0) (hr : ResLe r0 r) (hb : BsLe bs0 bs') : Runs P f args bs r bs' := by
  obtain ⟨n, h⟩ := h
  cases n with
  | zero => exact h.elim
  | succ n =>
    obtain ⟨fn, body, s0, e, st', r1, bs1, h1, h2, h3, h4, h5, h6, h7, h8, h9⟩ := h
    exact ⟨n + 1, fn, body, s0, e, st', r1, bs1, h1, h2, h3, h4, h5, h6, h7, ⟨fun h => hr.1 (h8.1 h), fun g w v h => hr.2 g w v (h8.2 g w v h)⟩, hb.1.trans h9.1, fun i cs hi => by
      obtain ⟨c, e1, e2⟩ := hb.2 i cs hi
      obtain ⟨c', e3, e4⟩ := h9.2 i c e1
      exact ⟨c', e3, fun w S vs h => e2 w S vs (e4 w S vs h)⟩⟩
/-- what is handed in may say more -/
theorem Runs.arg {f : Nat} {args args0 : List A} {bs bs0 bs' : List (List D)} {r : A} (h : Runs P f args0 bs0 r bs') (hl : args.length = args0.length) (ha : ∀ t, A.le (args.getD t .undef) (args0.getD t .undef)) (hb : BsLe bs bs0) : Runs P f args bs r bs' := by
  obtain ⟨n, h⟩ := h
  cases n with
  | zero => exact h.elim
  | succ n =>
    obtain ⟨fn, body, s0, e, st', r1, bs1, h1, h2, h3, h4, h5, h6, h7, h8, h9⟩ := h
    refine ⟨n + 1, fn, body, s0, e, st', r1, bs1, h1, h2, h3, by omega, fun E w a hh => h5 E w a ?_, h6, by rw [← hb.1]; exact h7, h8, h9⟩
    exact le_vals (st := initSt fn.ntmps args bs) (st' := initSt fn.ntmps args0 bs0) rfl ha (memOf_le hb) E w a hh
theorem runsN_sound (hmix : P.follows .mixedOrders = true) : ∀ n, SoundΦ P (RunsN P n)
  | 0 => fun _ _ _ _ _ h => h.elim
  | n + 1 => by
    rintro f as bs r bs' ⟨fn, body, s0, e, st', r0, bs0, h1, h2, h3, h4, h5', h5, h6, h7', h8'⟩
    have hΦ := runsN_sound hmix n
    unfold fin at h6
    split at h6
    · cases h6
    · rename_i hne
      split at h6 <;> (try contradiction)
      rename_i vs bs1 h7 h8
      cases h6
      obtain ⟨b1, b2⟩ := boxesBack_spec h8
      refine ⟨h8'.1.trans b1, fn, body, h1, h2, h3, h4, fun E g us hus hinit hlen hbl hpb => ?_⟩
      refine calls_of_wp h1 h2 (wp_mono (code_sound (E := E) hmix hΦ body h5 (h5' E _ _ ⟨g, hinit⟩)) ?_)
      rintro x a' w' ⟨rfl, g', hg'⟩
      obtain ⟨v, hv, hrv, hdr⟩ := results_run (P := P) hg' h7
      have F : Final E g'.S w' (fun i => g.β (pk i)) v r bs' := by
        refine ⟨h7'.1 hdr, fun g2 e2 => h7'.2 _ _ _ ?_, fun i cs hi => ?_, hg'.os, hg'.tape, hg'.out, hg'.size, hg'.old, hg'.sub, hg'.new, hg'.bnd⟩
        · cases hT : tupA vs with
          | d x => rw [hT] at hrv; show RepD w' g2.S x v; rw [e2]; exact hrv
          | agg cs => rw [hT] at hrv; show ∃ us, v = .agg us ∧ RepL (RepD w' g2.S) cs us.toList; rw [e2]; exact hrv
          | tup us => rw [hT] at hrv; show ∃ ls, v = .tuple ls ∧ RepL (RepV w' g2.S) us ls.toList; rw [e2]; exact hrv
          | _ => rw [hT] at hdr; exact hdr.elim
        · obtain ⟨cs0, hi0, hcs⟩ := h8'.2 i cs hi
          obtain ⟨cs', h9, h10⟩ := b2 i cs0 hi0
          rw [Nat.zero_add] at h9
          obtain ⟨us, T, h11, h12, h13⟩ := hg'.box _ cs' h9
          have hb : g'.β (pk i) = g.β (pk i) := (hg'.par i cs' h9).trans (hbl i (by rw [← b1]; exact (List.getElem?_eq_some_iff.1 hi0).1))
          rw [hb] at h11 h13
          exact ⟨us, T, h11, hcs _ _ _ (toDs_rep h10 h12), h13⟩
      have main : a'.defers = [] ∧ ∃ v, (results fn a'.tmps).run P w' = .ok v w' ∧ ∃ v' S', Ending.returned v = .returned v' ∧ Final E S' w' (fun i => g.β (pk i)) v' r bs' :=
        ⟨hg'.df, v, hv, v, g'.S, rfl, F⟩
      cases e with
      | normal => exact main
      | ret => exact main
      | exit id => exact absurd rfl (hne id)
theorem runs_sound (hmix : P.follows .mixedOrders = true) : SoundΦ P (Runs P) := fun _ _ _ _ _ ⟨n, h⟩ => runsN_sound hmix n _ _ _ _ _ h
end Go.Ab
