/- Regions that draw their order: what is independent may be turned round. -/
import Derived.Test.YtggkkkpafealkaaAbH3
namespace Go.Ab
open Go
variable {P : Program} {E : Env} {w : World} {a : Act} {o : Oper} {ops : Array Oper} {Φ : Calls'}
/-- a turn of memory at some keys -/
def St.turn (st : St) (ks : List Nat) (f : Nat → Option M) : St := { st with mem := fun k => if k ∈ ks then f k else st.mem k }
theorem set_turn (st : St) (k : Nat) (m : M) : st.set k m = st.turn [k] fun _ => some m := by
  unfold St.set St.turn
  congr 1; funext l; rw [upd_apply]; simp
theorem turn_nil (st : St) (f : Nat → Option M) : st.turn [] f = st := by unfold St.turn; simp
theorem setBoxes_same : ∀ {ks : List Nat} {bs : List (List D)} {st st2 : St} {k : Nat}, k ∈ ks.take bs.length → (setBoxes st ks bs).mem k = (setBoxes st2 ks bs).mem k
  | [], _, _, _, _, h => by simp at h
  | _ :: _, [], _, _, _, h => by simp at h
  | l :: ks, b :: bs, st, st2, k, h => by
    simp only [setBoxes]
    by_cases hk : k ∈ ks.take bs.length
    · exact setBoxes_same hk
    · have hkl : k = l := by simp at h; rcases h with h | h; exact h; exact absurd (by simpa using h) hk
      subst hkl
      have go : ∀ {ks : List Nat} {bs : List (List D)} {st : St}, k ∉ ks.take bs.length → (setBoxes st ks bs).mem k = st.mem k := by
        intro ks
        induction ks with
        | nil => intros; rfl
        | cons l ks ih =>
          intro bs st h
          cases bs with
          | nil => rfl
          | cons b bs =>
            simp only [List.length_cons, List.take_succ_cons, List.mem_cons, not_or] at h
            simp only [setBoxes]; rw [ih h.2]; exact upd_other _ _ h.1
      rw [go hk, go hk, set_same, set_same]
theorem setBoxes_turn (st st0 : St) (ks : List Nat) (bs : List (List D)) : setBoxes st ks bs = st.turn (ks.take bs.length) (setBoxes st0 ks bs).mem := by
  have h1 : (setBoxes st ks bs).mem = fun k => if k ∈ ks.take bs.length then (setBoxes st0 ks bs).mem k else st.mem k := by
    funext k
    by_cases hk : k ∈ ks.take bs.length
    · rw [if_pos hk]; exact setBoxes_same hk
    · rw [if_neg hk]
      have go : ∀ {ks : List Nat} {bs : List (List D)} {st : St}, k ∉ ks.take bs.length → (setBoxes st ks bs).mem k = st.mem k := by
        intro ks
        induction ks with
        | nil => intros; rfl
        | cons l ks ih =>
          intro bs st h
          cases bs with
          | nil => rfl
          | cons b bs =>
            simp only [List.length_cons, List.take_succ_cons, List.mem_cons, not_or] at h
            simp only [setBoxes]; rw [ih h.2]; exact upd_other _ _ h.1
      exact go hk
  have h2 := (setBoxes_sl (ks := ks) (bs := bs) (st := st))
  unfold St.turn
  rw [← h1]
  cases hs : setBoxes st ks bs with
  | mk nt sl mem => rw [hs] at h2; simp only at h2; obtain ⟨rfl, rfl⟩ := h2; rfl
theorem aopV_congr {mem : Nat → Option M} {ρ ρ2 : Operand → A} {dst : Option Nat} {op : Op} (h : ∀ x ∈ op.operands.toList, ρ2 x = ρ x) : aopV P mem ρ2 dst op = aopV P mem ρ dst op := by
  have pm : ∀ parts : List (Nat × Operand), (∀ x ∈ parts.map (·.2), ρ2 x = ρ x) → (parts.map fun p => (p.1, ρ2 p.2)) = parts.map fun p => (p.1, ρ p.2) := by
    intro parts hp
    refine List.map_congr_left fun p hm => ?_
    rw [hp p.2 (List.mem_map.2 ⟨p, hm, rfl⟩)]
  cases op <;> (try rfl)
  case build t ps => simp only [aopV]; rw [pm ps.toList (by simpa [Op.operands] using h)]
  case buildSlice t n ps => simp only [aopV]; rw [pm ps.toList (by simpa [Op.operands] using h)]
  case makeFunc fn fs cs =>
    cases fn with
    | func f =>
      have h1 : cs.toList.map ρ2 = cs.toList.map ρ := List.map_congr_left fun x hx => h x (by simp only [Op.operands, Array.toList_append, List.mem_append]; exact .inr hx)
      simp only [aopV, h1]
    | _ => rfl
  case slice t x lo hi mx =>
    have h1 := h x (by simp [Op.operands])
    have h2 : lo.map ρ2 = lo.map ρ := by cases lo with | none => rfl | some y => simp [h y (by simp [Op.operands])]
    have h3 : hi.map ρ2 = hi.map ρ := by cases hi with | none => rfl | some y => simp [h y (by simp [Op.operands])]
    simp only [aopV, h1, h2, h3]
  case call c =>
    have hc : ∀ x ∈ c.args.toList, ρ2 x = ρ x := fun x hx => h x (by simp only [Op.operands, Call.operands, Array.toList_append, List.mem_append]; exact .inr hx)
    simp only [aopV]
    split
    · rename_i h1 _; rw [h1] at hc; rw [hc _ (by simp)]
    · rename_i h1; rw [h1] at hc; rw [hc _ (by simp), hc _ (by simp)]
    · rename_i h1; rw [h1] at hc; rw [hc _ (by simp), hc _ (by simp)]
    · rename_i h1 _; rw [h1] at hc; rw [hc _ (by simp), hc _ (by simp)]
    · rfl
  all_goals (simp only [Op.operands, List.mem_cons, List.not_mem_nil, or_false, forall_eq_or_imp, forall_eq] at h; simp only [aopV, h])
theorem aopV_mem {mem mem2 : Nat → Option M} {ρ : Operand → A} {dst : Option Nat} {op : Op} {r : Rs} (h : aopV P mem ρ dst op = some r) (hm : ∀ k, k ∈ r.fp.rd ∨ k ∈ r.fp.wr → mem2 k = mem k) : aopV P mem2 ρ dst op = some r := by
  cases op <;> (try exact h)
  case makeFunc fn fs cs => cases fn <;> exact h
  case alloc t =>
    simp only [aopV] at h ⊢
    split at h
    · split at h
      · rename_i hd hd2; cases h
        have := hm _ (.inr (List.mem_singleton.2 rfl)); rw [this, hd, hd2]
      · cases h
    · cases h
  case box t x =>
    simp only [aopV] at h ⊢
    split at h
    · split at h
      · rename_i hd hd2; cases h
        have := hm _ (.inr (List.mem_singleton.2 rfl)); rw [this, hd, hd2]
      · cases h
    · cases h
  case load t x =>
    simp only [aopV] at h ⊢
    split at h
    · rename_i k off d n e h1 h2
      have hk : k ∈ r.fp.rd := by
        clear hm
        split at h
        · split at h <;> split at h <;> first | (cases h; simp [Rs.fp]; done) | cases h
        · cases h
      rw [hm k (.inl hk)]; exact h
    · exact h
    · cases h
  case store t x v =>
    simp only [aopV] at h ⊢
    split at h
    · rename_i k off vs n e h1 h2
      have hk : k ∈ r.fp.rd := by
        clear hm
        split at h
        · split at h <;> first | (cases h; simp [Rs.fp]; done) | cases h
        · cases h
      rw [hm k (.inl hk)]; exact h
    · cases h
  case call c =>
    simp only [aopV] at h ⊢
    split at h <;> (try exact h)
    rename_i s x t t' h0 h1 h2
    split at h
    · split at h
      · split at h
        · split at h
          · split at h
            · rename_i d
              have hk : d ∈ r.fp.wr := by
                clear hm
                split at h
                · cases h; simp [Rs.fp]
                · cases h
              rw [hm d (.inr hk)]; exact h
            · cases h
          · rename_i k _
            have hk : k ∈ r.fp.rd := by
              clear hm
              split at h
              · cases h; simp [Rs.fp]
              · cases h
            rw [hm k (.inl hk)]; exact h
          · cases h
        · cases h
      · cases h
    · cases h
/-- two states agree on what an operation looks at -/
structure Agree (ops : Array Oper) (o : Oper) (st st2 : St) (fp : Fp) : Prop where
  sl : ∀ t ∈ o.looksAt ops, st2.sl t = st.sl t
  mem : ∀ k, k ∈ fp.rd ∨ k ∈ fp.wr → st2.mem k = st.mem k
theorem Agree.ev {st st2 : St} {fp : Fp} (h : Agree ops o st st2 fp) {x : Operand} (hx : x ∈ o.op.operands.toList) : st2.ev x = st.ev x := by
  cases x with
  | tmp t => exact h.sl t (List.mem_append_left _ (List.mem_filterMap.2 ⟨.tmp t, hx, rfl⟩))
  | _ => rfl
theorem Agree.guard {st st2 : St} {fp : Fp} (h : Agree ops o st st2 fp) : guardOf st2 ops o = guardOf st ops o := by
  unfold guardOf
  cases hg : o.guard with
  | none => rfl
  | some x =>
    obtain ⟨j, want⟩ := x
    cases hj : ops[j]? with
    | none => simp only [hj]
    | some oj =>
      simp only [hj]
      cases hd : oj.dst with
      | none => rfl
      | some t =>
        simp only
        rw [h.sl t (List.mem_append_right _ (by simp [hg, hj, hd]))]
theorem gOfs_congr {st st2 : St} {gs : List Bool} : ∀ {l : List Operand}, (∀ x ∈ l, st2.ev x = st.ev x) → gOfs st2 gs l = gOfs st gs l
  | [], _ => rfl
  | x :: l, h => by simp only [gOfs]; rw [h x List.mem_cons_self, gOfs_congr fun y hy => h y (List.mem_cons_of_mem _ hy)]
theorem aopS_frame {st st2 : St} {r : Rs} {gs : List Bool} (h : aopS P st gs o.dst o.op = some r) (ha : Agree ops o st st2 r.fp) : aopS P st2 gs o.dst o.op = some r := by
  unfold aopS at h ⊢
  have hev := fun x hx => ha.ev (x := x) hx
  split at h
  · rename_i c x y hp
    have hop : o.op = .pick c x y := by unfold isPick at hp; split at hp <;> cases hp; assumption
    have e1 := hev c (by rw [hop]; simp [Op.operands])
    have e2 := hev x (by rw [hop]; simp [Op.operands])
    have e3 := hev y (by rw [hop]; simp [Op.operands])
    simp only [e1, e2, e3]
    exact h
  · split at h
    · rename_i r' hv
      cases h
      have e1 : aopV P st2.mem (fun x => strip (st2.ev x)) o.dst o.op = some r' := by
        rw [aopV_congr (ρ := fun x => strip (st.ev x)) fun x hx => by rw [hev x hx]]
        exact aopV_mem hv fun k hk => ha.mem k hk
      rw [e1]
      simp only
      rw [gOfs_congr hev]
    · cases h
theorem aop_frame {st st2 : St} {r : Rs} (h : aop P ops st o = some r) (ha : Agree ops o st st2 r.fp) : aop P ops st2 o = some r := by
  unfold aop at h ⊢
  rw [ha.guard]
  split at h
  · exact aopS_frame h ha
  · split at h
    · rename_i r' hr
      split at h
      · rename_i hw
        cases h
        have := aopS_frame (P := P) (ops := ops) (st2 := st2) hr ⟨ha.sl, fun k hk => ha.mem k (by
          rcases hk with hk | hk
          · exact .inl hk
          · simp [Rs.fp, hw] at hk)⟩
        rw [this]; simp only; rw [hw]
      · cases h
    · cases h
  · cases h
theorem boxesOf_congr {mem mem2 : Nat → Option M} : ∀ {ks : List Nat}, (∀ k ∈ ks, mem2 k = mem k) → boxesOf mem2 ks = boxesOf mem ks
  | [], _ => rfl
  | k :: ks, h => by simp only [boxesOf]; rw [h k List.mem_cons_self, boxesOf_congr fun l hl => h l (List.mem_cons_of_mem _ hl)]
theorem isCall_op {c : Call} (h : isCall o.op = some c) : o.op = .call c ∧ ∃ x, c.callee = .value x := by
  unfold isCall at h
  split at h
  · rename_i c' hc
    split at h
    · rename_i x hx; cases h; exact ⟨hc, x, hx⟩
    · cases h
  · cases h
theorem callOf_frame {st st2 : St} {c : Call} {f : Nat} {as : List A} {ks : List Nat} {bs : List (List D)} (hc : isCall o.op = some c) (h : callOf st c = some (f, as, ks, bs)) (ha : Agree ops o st st2 ⟨ks, ks⟩) : callOf st2 c = some (f, as, ks, bs) := by
  obtain ⟨hop, x, hx⟩ := isCall_op hc
  have hev := fun y hy => ha.ev (x := y) hy
  rw [hop] at hev
  have e1 : st2.ev x = st.ev x := hev x (by simp [Op.operands, Call.operands, hx])
  have e2 : c.args.toList.map (fun y => strip (st2.ev y)) = c.args.toList.map fun y => strip (st.ev y) := List.map_congr_left fun y hy => by rw [hev y (by simp only [Op.operands, Call.operands, Array.toList_append, List.mem_append]; exact .inr hy)]
  unfold callOf at h ⊢
  rw [hx] at h ⊢
  simp only at h ⊢
  rw [e1, e2]
  split at h
  · split at h
    · rename_i h1 h2
      cases h
      rw [boxesOf_congr fun k hk => ha.mem k (.inl hk), h1, h2]
    · cases h
  · cases h
theorem put_turn (st : St) (dst : Option Nat) (x : A) (ks : List Nat) (f : Nat → Option M) : (st.turn ks f).put dst x = (st.put dst x).turn ks f := by
  cases dst with
  | none => rfl
  | some d => unfold St.put St.turn; simp only; split <;> rfl
/-- an operation as an update, and that it is the same one wherever what it looks at is the same -/
theorem OpS.upd {st st1 : St} {fp : Fp} (h : OpS P Φ ops o st st1 fp) : ∃ (x : A) (ks : List Nat) (f : Nat → Option M), (∀ k ∈ ks, k ∈ fp.wr) ∧ st1 = (st.turn ks f).put o.dst x ∧ ∀ st2, Agree ops o st st2 fp → OpS P Φ ops o st2 ((st2.turn ks f).put o.dst x) fp := by
  cases h with
  | @plain r h1 h2 h3 h3' =>
    cases hw : r.wr with
    | none =>
      refine ⟨r.val, [], fun _ => none, fun _ h => (by cases h), ?_, fun st2 ha => ?_⟩
      · rw [turn_nil]; unfold Rs.app; rw [hw]
      · have := OpS.plain (P := P) (Φ := Φ) (ops := ops) (o := o) (st := st2) h1 (aop_frame h2 ha) h3 h3'
        rw [turn_nil]; unfold Rs.app at this; rw [hw] at this; exact this
    | some km =>
      obtain ⟨k, m⟩ := km
      refine ⟨r.val, [k], fun _ => some m, fun l h => by simp at h; subst h; simp [Rs.fp, hw], ?_, fun st2 ha => ?_⟩
      · rw [← set_turn]; unfold Rs.app; rw [hw]
      · have := OpS.plain (P := P) (Φ := Φ) (ops := ops) (o := o) (st := st2) h1 (aop_frame h2 ha) h3 h3'
        rw [← set_turn]; unfold Rs.app at this; rw [hw] at this; exact this
  | @call c f as ks bs r bs' gs h1 h2 h3 h4 h5 h6 =>
    refine ⟨r, ks.take bs'.length, (setBoxes st ks bs').mem, fun k hk => List.mem_of_mem_take hk, ?_, fun st2 ha => ?_⟩
    · rw [← setBoxes_turn]
    · have := OpS.call (P := P) (Φ := Φ) (ops := ops) (o := o) (st := st2) h1 (callOf_frame h1 h2 ha) (by rw [ha.guard]; exact h3) h4 (by rw [gOfs_congr fun x hx => ha.ev hx]; exact h5) h6
      rw [← setBoxes_turn]; exact this
  | @callG c f as r gs h1 h2 h3 h4 h5 =>
    refine ⟨_, [], fun _ => none, fun _ h => (by cases h), by rw [turn_nil], fun st2 ha => ?_⟩
    rw [turn_nil]
    exact .callG h1 (callOf_frame h1 h2 ha) (by rw [ha.guard]; exact h3) (by rw [gOfs_congr fun x hx => ha.ev hx]; exact h4) h5
  | @skip c gs h1 h2 h3 =>
    refine ⟨_, [], fun _ => none, fun _ h => (by cases h), by rw [turn_nil], fun st2 ha => ?_⟩
    rw [turn_nil]
    exact .skip h1 (by rw [ha.guard]; exact h2) h3
theorem put_sl (st : St) (dst : Option Nat) (x : A) (t : Nat) (h : dst ≠ some t) : (st.put dst x).sl t = st.sl t := by
  cases dst with
  | none => rfl
  | some d =>
    unfold St.put; simp only
    split
    · exact upd_other _ _ (fun e => h (by rw [e]))
    · rfl
theorem put_mem (st : St) (dst : Option Nat) (x : A) : (st.put dst x).mem = st.mem := by
  cases dst with
  | none => rfl
  | some d => unfold St.put; simp only; split <;> rfl
theorem put_put (st : St) (d e : Option Nat) (x y : A) (h : ∀ t, d = some t → e ≠ some t) : (st.put d x).put e y = (st.put e y).put d x := by
  cases d with
  | none => rfl
  | some d =>
    cases e with
    | none => rfl
    | some e =>
      have hne : d ≠ e := fun he => h d rfl (by rw [he])
      unfold St.put; simp only
      cases h1 : Nat.blt d st.nt <;> cases h2 : Nat.blt e st.nt <;> simp only [h1]
      congr 1; funext t; simp only [upd_apply]
      by_cases ht : t = d
      · subst ht; simp [hne]
      · simp [ht]
theorem turn_turn (st : St) (ks ls : List Nat) (f h : Nat → Option M) (hd : ∀ k, k ∈ ks → k ∉ ls) : (st.turn ks f).turn ls h = (st.turn ls h).turn ks f := by
  unfold St.turn; simp only
  congr 1; funext k
  by_cases h1 : k ∈ ks
  · simp [h1, hd k h1]
  · simp [h1]
/-- independent neighbours change places -/
theorem OpS.swap {x y : Oper} {st st1 st2 : St} {fx fy : Fp} (hx : OpS P Φ ops x st st1 fx) (hy : OpS P Φ ops y st1 st2 fy) (h1 : x.apart ops y = true) (h2 : y.apart ops x = true) (hw : ∀ k, k ∈ fx.wr → k ∉ fy.rd ∧ k ∉ fy.wr) (hr : ∀ k, k ∈ fx.rd → k ∉ fy.wr) :
    ∃ st1', OpS P Φ ops y st st1' fy ∧ OpS P Φ ops x st1' st2 fx := by
  obtain ⟨vx, kx, gx, hkx, rfl, fx'⟩ := hx.upd
  obtain ⟨vy, ky, gy, hky, rfl, fy'⟩ := hy.upd
  obtain ⟨a1, a2, a3⟩ := Oper.apart_spec h1
  obtain ⟨b1, b2, b3⟩ := Oper.apart_spec h2
  have ay : Agree ops y ((st.turn kx gx).put x.dst vx) st fy := by
    refine ⟨fun t ht => ?_, fun k hk => ?_⟩
    · rw [put_sl _ _ _ _ (fun e => a1 t e ht)]; rfl
    · rw [put_mem]
      show _ = if k ∈ kx then gx k else st.mem k
      rw [if_neg]
      intro hm
      have := hw k (hkx k hm)
      rcases hk with hk | hk
      · exact this.1 hk
      · exact this.2 hk
  have hy' := fy' st ay
  have ax : Agree ops x st ((st.turn ky gy).put y.dst vy) fx := by
    refine ⟨fun t ht => ?_, fun k hk => ?_⟩
    · rw [put_sl _ _ _ _ (fun e => b1 t e ht)]; rfl
    · rw [put_mem]
      show (if k ∈ ky then gy k else st.mem k) = _
      rw [if_neg]
      intro hm
      rcases hk with hk | hk
      · exact hr k hk (hky k hm)
      · exact (hw k hk).2 (hky k hm)
  have hx' := fx' _ ax
  refine ⟨_, hy', ?_⟩
  have e : (((st.turn ky gy).put y.dst vy).turn kx gx).put x.dst vx = ((((st.turn kx gx).put x.dst vx).turn ky gy).put y.dst vy) := by
    rw [← put_turn, ← put_turn, put_put _ y.dst x.dst _ _ (fun t e => b2 t e), turn_turn st ky kx _ _ (fun k h3 h4 => (hw k (hkx k h4)).2 (hky k h3))]
  rw [e] at hx'; exact hx'
/-- RunO, its footprints told by the operation's number -/
inductive RunF (P : Program) (Φ : Calls') (ops : Array Oper) (F : Nat → Fp) : List Nat → St → St → Prop
  | nil {s : St} : RunF P Φ ops F [] s s
  | cons {i : Nat} {is : List Nat} {o' : Oper} {s st1 st2 : St} : ops[i]? = some o' → OpS P Φ ops o' s st1 (F i) → RunF P Φ ops F is st1 st2 → RunF P Φ ops F (i :: is) s st2
theorem RunO.toF {F : Nat → Fp} {l : List Nat} {st st' : St} {fps : List Fp} (h : RunO P Φ ops l st st' fps) : (∀ (j i : Nat) (p : Fp), l[j]? = some i → fps[j]? = some p → F i = p) → RunF P Φ ops F l st st' := by
  induction h with
  | nil => exact fun _ => .nil
  | cons h1 h2 _ ih =>
    intro hf
    exact .cons h1 (by rw [hf 0 _ _ rfl rfl]; exact h2) (ih fun j i p hi hp => hf (j + 1) i p (by simpa using hi) (by simpa using hp))
/-- i may change places with x -/
def Indep (ops : Array Oper) (F : Nat → Fp) (x i : Nat) : Prop := ∀ ox oi, ops[x]? = some ox → ops[i]? = some oi → ox.apart ops oi = true ∧ oi.apart ops ox = true ∧ (∀ k, k ∈ (F x).wr → k ∉ (F i).rd ∧ k ∉ (F i).wr) ∧ ∀ k, k ∈ (F x).rd → k ∉ (F i).wr
theorem RunF.front {F : Nat → Fp} {i : Nat} : ∀ {l1 l2 : List Nat} {st st' : St}, RunF P Φ ops F (l1 ++ i :: l2) st st' → (∀ x ∈ l1, Indep ops F x i) → RunF P Φ ops F (i :: (l1 ++ l2)) st st'
  | [], _, _, _, h, _ => h
  | x :: l1, l2, st, st', h, hi => by
    cases h with
    | cons h1 h2 h3 =>
      have h4 := RunF.front h3 fun y hy => hi y (List.mem_cons_of_mem _ hy)
      cases h4 with
      | cons h5 h6 h7 =>
        obtain ⟨q1, q2, q3, q4⟩ := hi x List.mem_cons_self _ _ h1 h5
        obtain ⟨s1, s2, s3⟩ := h2.swap h6 q1 q2 q3 q4
        exact .cons h5 s2 (.cons h1 s3 h7)
theorem reach_listed {listed : Nat → Prop} (hcl : ∀ i o, listed i → ops[i]? = some o → ∀ j ∈ afterOf o, listed j) : ∀ {n x i : Nat}, (∀ o, ops[i]? = some o → ∀ j ∈ afterOf o, listed j) → reachB ops n x i = true → listed x
  | 0, _, _, _, h => by cases h
  | n + 1, x, i, hi, h => by
    unfold reachB at h
    split at h
    · rename_i o ho
      rw [List.any_eq_true] at h
      obtain ⟨j, hj, h⟩ := h
      rw [Bool.or_eq_true] at h
      rcases h with h | h
      · rw [← Nat.eq_of_beq_eq_true h]; exact hi o ho j hj
      · exact reach_listed hcl (fun o' ho' => hcl j o' (hi o ho j hj) ho') h
    · cases h
theorem disj_spec {xs ys : List Nat} (h : disj xs ys = true) {k : Nat} (hx : k ∈ xs) (hy : k ∈ ys) : False := by
  unfold disj at h
  have := List.all_eq_true.1 (List.all_eq_true.1 h k hx) k hy
  rw [Nat.beq_refl] at this; cases this
theorem fpRow_spec {i : Nat} {p : Fp} : ∀ {j : Nat} {qs : List Fp}, fpRow ops i p j qs = true → ∀ (m : Nat) (q : Fp), qs[m]? = some q → pairOk ops i p (j + m) q = true
  | _, [], _, m, q, h => by simp at h
  | j, q0 :: qs, h, m, q, hq => by
    unfold fpRow at h
    rw [Bool.and_eq_true] at h
    cases m with
    | zero => simp at hq; subst hq; exact h.1
    | succ m => simp at hq; have := fpRow_spec h.2 m q hq; rw [← this]; congr 1; omega
theorem fpOk_spec : ∀ {i : Nat} {ps : List Fp}, fpOk ops i ps = true → ∀ (m n : Nat) (p q : Fp), m < n → ps[m]? = some p → ps[n]? = some q → pairOk ops (i + m) p (i + n) q = true
  | _, [], _, m, n, p, q, _, h, _ => by simp at h
  | i, p0 :: ps, h, m, n, p, q, hmn, hp, hq => by
    unfold fpOk at h
    rw [Bool.and_eq_true] at h
    cases n with
    | zero => omega
    | succ n =>
      simp at hq
      cases m with
      | zero => simp at hp; subst hp; have := fpRow_spec h.1 n q hq; rw [← this]; congr 1; omega
      | succ m => simp at hp; have := fpOk_spec h.2 m n p q (by omega) hp hq; rw [← this]; congr 1 <;> omega
theorem ready_spec {listed : Array Bool} {i : Nat} (hs : listed.size = ops.size) (h : i ∈ Region.ready .any ops listed) : i < ops.size ∧ listed.getD i true = false ∧ ∀ o, ops[i]? = some o → ∀ j ∈ afterOf o, listed.getD j false = true := by
  unfold Region.ready at h
  rw [List.mem_filter] at h
  obtain ⟨h1, h2⟩ := h
  rw [List.mem_range] at h1
  rw [Bool.and_eq_true] at h2
  refine ⟨h1, by simpa using h2.1, fun o ho j hj => ?_⟩
  rw [ho] at h2
  simp only [Option.map_some, Option.getD_some] at h2
  unfold afterOf at hj
  simp only [List.mem_map, List.mem_filter] at hj
  obtain ⟨e, ⟨he, hb⟩, rfl⟩ := hj
  have := (Array.all_eq_true_iff_forall_mem.1 h2.2) e (by simpa using he)
  rw [hb] at this; simpa using this
theorem any_sound {F : Nat → Fp} {Q : Exit → Act → World → Prop} (hΦ : SoundΦ P Φ) (hed : edgesOk ops = true) (hin : ∀ x i, x < i → i < ops.size → Indep ops F x i ∨ reachB ops ops.size x i = true) :
    ∀ (fuel : Nat) (R : List Nat) (listed : Array Bool) (st st' : St) (a : Act) (w : World), R.length ≤ fuel → listed.size = ops.size → R.Pairwise (· < ·) → (∀ i, i < ops.size → (i ∈ R ↔ listed.getD i true = false)) → (∀ i, i ∈ R → i < ops.size) →
      (∀ i o, i ∉ R → ops[i]? = some o → ∀ j ∈ afterOf o, j ∉ R) → RunF P Φ ops F R st st' → RepS E w a st → (∀ a' w', RepS E w' a' st' → Q .normal a' w') → wpAny P .any ops Q fuel listed a w := by
  have edge : ∀ i o, ops[i]? = some o → ∀ j ∈ afterOf o, j < i := by
    intro i o ho j hj
    unfold edgesOk at hed
    have hm : (o, i) ∈ ops.toList.zipIdx := by
      rw [List.mem_iff_getElem?]
      exact ⟨i, by rw [List.getElem?_zipIdx]; simp [ho]⟩
    have := List.all_eq_true.1 hed (o, i) hm
    simp only [Bool.and_eq_true] at this
    exact Nat.le_of_ble_eq_true (List.all_eq_true.1 this.1 j hj)
  intro fuel
  induction fuel with
  | zero =>
    intro R listed st st' a w hl hs _ hm _ _ hrun hr k
    have : R = [] := List.eq_nil_of_length_eq_zero (by omega)
    subst this
    cases hrun
    refine ⟨List.eq_nil_iff_forall_not_mem.2 fun i hi => ?_, k _ _ hr⟩
    obtain ⟨h1, h2, _⟩ := ready_spec hs hi
    exact absurd ((hm i h1).2 h2) (by simp)
  | succ fuel ih =>
    intro R listed st st' a w hl hs hp hm hlt hcl hrun hr k
    refine ⟨fun hnil => ?_, fun i hi => ?_⟩
    · cases R with
      | nil => cases hrun; exact k _ _ hr
      | cons i R =>
        exfalso
        have hi := hlt i List.mem_cons_self
        have hmem : i ∈ Region.ready .any ops listed := by
          unfold Region.ready
          rw [List.mem_filter]
          refine ⟨List.mem_range.2 hi, ?_⟩
          rw [Bool.and_eq_true]
          refine ⟨by rw [(hm i hi).1 List.mem_cons_self]; rfl, ?_⟩
          have ho : ops[i]? = some ops[i] := by simp [hi]
          rw [ho]
          simp only [Option.map_some, Option.getD_some]
          refine Array.all_eq_true_iff_forall_mem.2 fun e he => ?_
          cases hb : Region.binds .any e with
          | false => rfl
          | true =>
            have hj : e.on ∈ afterOf ops[i] := List.mem_map.2 ⟨e, List.mem_filter.2 ⟨by simpa using he, hb⟩, rfl⟩
            have hji := edge i _ ho _ hj
            have hn : e.on ∉ i :: R := by
              intro hm'
              rcases List.mem_cons.1 hm' with h | h
              · omega
              · have := (List.pairwise_cons.1 hp).1 _ h; omega
            have hj2 : e.on < ops.size := by omega
            have : listed.getD e.on true = true := by
              cases hd : listed.getD e.on true with
              | true => rfl
              | false => exact absurd ((hm _ hj2).2 hd) hn
            have hj3 : e.on < listed.size := by omega
            simp [hj3] at this
            simp [hj3, this]
        rw [hnil] at hmem; cases hmem
    · obtain ⟨h1, h2, h3⟩ := ready_spec hs hi
      have hiR := (hm i h1).2 h2
      obtain ⟨l1, l2, rfl⟩ := List.append_of_mem hiR
      have hp' := List.pairwise_append.1 hp
      have hnl : ∀ j, j ∉ (l1 ++ i :: l2) ↔ ¬ j ∈ (l1 ++ i :: l2) := fun _ => Iff.rfl
      have hlisted : ∀ j, listed.getD j false = true → j ∉ (l1 ++ i :: l2) := by
        intro j hj hmj
        have hjs := hlt j hmj
        have := (hm j hjs).1 hmj
        have hj3 : j < listed.size := by omega
        simp [hj3] at this hj
        rw [this] at hj; cases hj
      have hfront := hrun.front (l1 := l1) (l2 := l2) (i := i) (by
        intro x hx
        have hxi : x < i := hp'.2.2 x hx i List.mem_cons_self
        rcases hin x i hxi h1 with h4 | h4
        · exact h4
        · exfalso
          have := reach_listed (listed := fun j => j ∉ (l1 ++ i :: l2)) hcl (fun o ho j hj => hlisted j (h3 o ho j hj)) h4
          exact this (List.mem_append_left _ hx))
      cases hfront with
      | cons h5 h6 h7 =>
        refine h6.sound hΦ hr h5 fun a' w' hr' => ?_
        have hni1 : i ∉ l1 := fun h => by have := hp'.2.2 i h i List.mem_cons_self; omega
        have hni2 : i ∉ l2 := fun h => by have := (List.pairwise_cons.1 hp'.2.1).1 i h; omega
        have hin' : ∀ j, j ∈ l1 ++ l2 ↔ j ∈ (l1 ++ i :: l2) ∧ j ≠ i := by
          intro j
          simp only [List.mem_append, List.mem_cons]
          constructor
          · rintro (h | h)
            · exact ⟨.inl h, fun e => hni1 (e ▸ h)⟩
            · exact ⟨.inr (.inr h), fun e => hni2 (e ▸ h)⟩
          · rintro ⟨h | h | h, hne⟩
            · exact .inl h
            · exact absurd h hne
            · exact .inr h
        refine ih (l1 ++ l2) (listed.setIfInBounds i true) _ st' a' w' (by simp at hl ⊢; omega) (by simpa using hs) ?_ ?_ ?_ ?_ h7 hr' k
        · exact List.pairwise_append.2 ⟨hp'.1, (List.pairwise_cons.1 hp'.2.1).2, fun x hx y hy => hp'.2.2 x hx y (List.mem_cons_of_mem _ hy)⟩
        · intro j hj
          rw [hin']
          by_cases hji : j = i
          · subst hji; have : j < listed.size := by omega
            simp [this]
          · have : (listed.setIfInBounds i true).getD j true = listed.getD j true := by simp [Array.getElem?_setIfInBounds_ne (Ne.symm hji)]
            rw [this, ← hm j hj]; simp [hji]
        · intro j hj; exact hlt j ((hin' j).1 hj).1
        · intro j o hj ho m hmm hc
          obtain ⟨hc1, hc2⟩ := (hin' m).1 hc
          by_cases hji : j = i
          · subst hji; exact hlisted m (h3 o ho m hmm) hc1
          · exact hcl j o (fun h => hj ((hin' j).2 ⟨h, hji⟩)) ho m hmm hc1
theorem draw_sound {Q : Exit → Act → World → Prop} {id : Nat} {st st' : St} {fps : List Fp} (hmix : P.follows .mixedOrders = true) (hΦ : SoundΦ P Φ) (hrun : RunO P Φ ops (List.range' 0 ops.size) st st' fps) (hed : edgesOk ops = true) (hfp : fpOk ops 0 fps = true) (hr : RepS E w a st)
    (k : ∀ a' w', RepS E w' a' st' → Q .normal a' w') : (Code.region id ops true).wp P Q a w := by
  refine wp_region_any hmix ?_
  have hlen : fps.length = ops.size := by
    have : ∀ {l : List Nat} {st st' : St} {fps : List Fp}, RunO P Φ ops l st st' fps → fps.length = l.length := by
      intro l st st' fps h
      induction h with
      | nil => rfl
      | cons _ _ _ ih => simp [ih]
    rw [this hrun]; simp
  refine any_sound (F := fun i => fps.getD i ⟨[], []⟩) hΦ hed ?_ ops.size (List.range' 0 ops.size) (Array.replicate ops.size false) st st' a _ (by simp) (by simp) ?_ ?_ ?_ ?_ ?_ (drew_rep hr) k
  · intro x i hxi hi
    have hx' : x < fps.length := by omega
    have hi' : i < fps.length := by omega
    have := fpOk_spec hfp x i _ _ hxi (List.getElem?_eq_getElem hx') (List.getElem?_eq_getElem hi')
    rw [Nat.zero_add, Nat.zero_add] at this
    unfold pairOk at this
    rw [Bool.or_eq_true] at this
    rcases this with h | h
    · left
      rw [Bool.and_eq_true] at h
      obtain ⟨h1, h2⟩ := h
      intro ox oi hox hoi
      unfold opsApart at h1
      rw [hox, hoi] at h1
      simp only [Bool.and_eq_true] at h1
      have e1 : fps.getD x ⟨[], []⟩ = fps[x] := by simp [hx']
      have e2 : fps.getD i ⟨[], []⟩ = fps[i] := by simp [hi']
      simp only [e1, e2]
      unfold Fp.apart at h2
      rw [Bool.and_eq_true, Bool.and_eq_true] at h2
      exact ⟨h1.1, h1.2, fun k hk => ⟨fun hk' => disj_spec h2.1 hk hk', fun hk' => disj_spec h2.2.1 hk hk'⟩, fun k hk hk' => disj_spec h2.2.2 hk hk'⟩
    · exact .inr h
  · exact List.pairwise_lt_range'
  · intro i hi; simp [hi]
  · intro i hi; simpa using hi
  · intro i o hi ho j _ _
    have : i < ops.size := (Array.getElem?_eq_some_iff.1 ho).1
    exact hi (by simp [this])
  · refine hrun.toF fun j i p hi hp => ?_
    have hj := (List.getElem?_eq_some_iff.1 hi).1
    simp at hj
    have : i = j := by simp [List.getElem?_range', hj] at hi; exact hi.symm
    subst this
    simp [hp]
end Go.Ab
