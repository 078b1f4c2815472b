/- The call of a function is sound. -/
import Derived.Test.YtggkkkpafealkaaAbH1
namespace Go.Ab
open Go
variable {P : Program} {E : Env} {g : G} {w : World} {a : Act} {st : St} {o : Oper} {ops : Array Oper}
def memOf (bs : List (List D)) : Nat → Option M := fun k =>
  match Nat.ble 100000 k with
  | true => (match bs[k - 100000]? with | some cs => some (.box (cs.map .d)) | none => none)
  | false => none
def initSt (nt : Nat) (args : List A) (bs : List (List D)) : St := { nt := nt, sl := fun t => args.getD t .undef, mem := memOf bs }
def initAct (nt : Nat) (vs : Array Value) : Act := { tmps := vs ++ Array.replicate (nt - vs.size) undef, defers := [] }
def DataRes : A → Prop | .d _ => True | .agg _ => True | .tup _ => True | _ => False
/-- how things are when a call has come back -/
structure Final (E : Env) (S' : Nat → Nat → Prop) (w' : World) (bl : Nat → Nat) (v : Value) (r : A) (bs' : List (List D)) : Prop where
  dat : DataRes r
  res : ∀ g, g.S = S' → RepA g w' r v
  box : ∀ i cs, bs'[i]? = some cs → ∃ vs T, w'.heap[bl i]? = some (.cells vs T (0, 0)) ∧ RepL (RepD w' S') cs vs.toList ∧ ∀ j, ¬ S' (bl i) j
  os : w'.os = E.w0.os
  tape : w'.tape = E.w0.tape
  out : w'.output = E.w0.output
  size : E.w0.heap.size ≤ w'.heap.size
  old : ∀ b, b < E.w0.heap.size → b ∉ E.pb → w'.heap[b]? = E.w0.heap[b]?
  sub : ∀ b i, E.S0 b i → S' b i
  new : ∀ b i, S' b i → E.S0 b i ∨ E.w0.heap.size ≤ b
  bnd : ∀ b i, S' b i → b < w'.heap.size
def CallOk (P : Program) (f : Nat) (args : List A) (bs : List (List D)) (r : A) (bs' : List (List D)) : Prop :=
  bs'.length = bs.length ∧ ∃ fn body, P.funcs[f]? = some fn ∧ fn.body = some body ∧ (fn.name == "runtime.NumGoroutine") = false ∧ args.length ≤ fn.ntmps ∧
    ∀ (E : Env) (g : G) (vs : Array Value), vs.size ≤ fn.ntmps → RepG E g E.w0 (initAct fn.ntmps vs) (initSt fn.ntmps args bs) → vs.size = args.length → (∀ i, i < bs.length → E.bl i = g.β (pk i)) →
      (∀ b, b ∈ E.pb ↔ ∃ i, i < bs.length ∧ b = g.β (pk i)) →
      Calls P f vs E.w0 fun e w' => ∃ v S', e = .returned v ∧ Final E S' w' (fun i => g.β (pk i)) v r bs'
/-! ### keys -/
theorem idx_get : ∀ {ks : List Nat} {k : Nat}, k ∈ ks → ks[idx ks k]? = some k
  | x :: xs, k, h => by
    unfold idx
    cases hb : Nat.beq x k with
    | true => simp [Nat.eq_of_beq_eq_true hb]
    | false =>
      rcases List.mem_cons.1 h with rfl | h
      · rw [Nat.beq_refl] at hb; cases hb
      · simpa using idx_get h
theorem mem_addK : ∀ {ks : List Nat} {k l : Nat}, l ∈ addK ks k ↔ l = k ∨ l ∈ ks
  | [], k, l => by simp [addK]
  | x :: xs, k, l => by
    unfold addK
    cases hb : Nat.beq x k with
    | true => have := Nat.eq_of_beq_eq_true hb; subst this; simp
    | false => simp only [List.mem_cons, mem_addK]; constructor <;> (rintro (h | h | h) <;> simp [h])
theorem nodup_addK : ∀ {ks : List Nat} {k : Nat}, ks.Nodup → (addK ks k).Nodup
  | [], k, _ => by simp [addK]
  | x :: xs, k, h => by
    unfold addK
    cases hb : Nat.beq x k with
    | true => exact h
    | false =>
      rw [List.nodup_cons] at h ⊢
      refine ⟨fun hm => ?_, nodup_addK h.2⟩
      rcases mem_addK.1 hm with rfl | hm
      · rw [Nat.beq_refl] at hb; cases hb
      · exact h.1 hm
theorem capKeys_spec : ∀ {cs : List Cp} {ks : List Nat}, ks.Nodup → (capKeys ks cs).Nodup ∧ (∀ k, k ∈ ks → k ∈ capKeys ks cs) ∧ ∀ k, Cp.ptr k ∈ cs → k ∈ capKeys ks cs
  | [], ks, h => ⟨h, fun _ h => h, fun _ h => by cases h⟩
  | .d x :: cs, ks, h => by
    obtain ⟨h1, h2, h3⟩ := capKeys_spec (cs := cs) h
    exact ⟨h1, h2, fun k hk => by rcases List.mem_cons.1 hk with e | hk; cases e; exact h3 k hk⟩
  | .ptr l :: cs, ks, h => by
    obtain ⟨h1, h2, h3⟩ := capKeys_spec (cs := cs) (nodup_addK (k := l) h)
    refine ⟨h1, fun k hk => h2 k (mem_addK.2 (.inr hk)), fun k hk => ?_⟩
    rcases List.mem_cons.1 hk with e | hk
    · cases e; exact h2 _ (mem_addK.2 (.inl rfl))
    · exact h3 k hk
def hasKey (a : A) (k : Nat) : Prop := (∃ off, a = .ptr k off) ∨ ∃ f cs, a = .fn f cs ∧ Cp.ptr k ∈ cs
theorem keysOf_spec : ∀ {as : List A} {ks : List Nat}, ks.Nodup → (keysOf ks as).Nodup ∧ (∀ k, k ∈ ks → k ∈ keysOf ks as) ∧ ∀ a k, a ∈ as → hasKey a k → k ∈ keysOf ks as := by
  intro as
  induction as with
  | nil => exact fun h => ⟨h, fun _ h => h, fun _ _ h => by cases h⟩
  | cons a as ih =>
    intro ks h
    have easy : ∀ {b : A}, (∀ k, ¬ hasKey b k) → keysOf ks (b :: as) = keysOf ks as → (keysOf ks (b :: as)).Nodup ∧ (∀ k, k ∈ ks → k ∈ keysOf ks (b :: as)) ∧ ∀ a k, a ∈ b :: as → hasKey a k → k ∈ keysOf ks (b :: as) := by
      intro b hb e
      rw [e]
      obtain ⟨h1, h2, h3⟩ := ih h
      refine ⟨h1, h2, fun a k ha hk => ?_⟩
      rcases List.mem_cons.1 ha with rfl | ha
      · exact absurd hk (hb k)
      · exact h3 a k ha hk
    have no : ∀ {b : A}, (∀ k off, b ≠ .ptr k off) → (∀ f cs, b ≠ .fn f cs) → ∀ k, ¬ hasKey b k := by
      rintro b h1 h2 k (⟨off, e⟩ | ⟨f, cs, e, _⟩)
      · exact h1 _ _ e
      · exact h2 _ _ e
    cases a
    case ptr l off =>
      obtain ⟨h1, h2, h3⟩ := ih (nodup_addK (k := l) h)
      refine ⟨h1, fun k hk => h2 k (mem_addK.2 (.inr hk)), fun a k ha hk => ?_⟩
      rcases List.mem_cons.1 ha with rfl | ha
      · rcases hk with ⟨o, e⟩ | ⟨f, cs, e, _⟩
        · cases e; exact h2 _ (mem_addK.2 (.inl rfl))
        · cases e
      · exact h3 a k ha hk
    case fn f cs =>
      obtain ⟨c1, c2, c3⟩ := capKeys_spec (cs := cs) h
      obtain ⟨h1, h2, h3⟩ := ih c1
      refine ⟨h1, fun k hk => h2 k (c2 k hk), fun a k ha hk => ?_⟩
      rcases List.mem_cons.1 ha with rfl | ha
      · rcases hk with ⟨o, e⟩ | ⟨f', cs', e, hm⟩
        · cases e
        · cases e; exact h2 k (c3 k hm)
      · exact h3 a k ha hk
    all_goals exact easy (no (by simp) (by simp)) rfl
theorem boxesOf_spec {mem : Nat → Option M} : ∀ {ks : List Nat} {bs : List (List D)}, boxesOf mem ks = some bs → bs.length = ks.length ∧ ∀ (i k : Nat) (ds : List D), ks[i]? = some k → bs[i]? = some ds → ∃ cs, mem k = some (.box cs) ∧ toDs cs = some ds
  | [], bs, h => by cases h; exact ⟨rfl, fun i k ds h => by simp at h⟩
  | k :: ks, bs, h => by
    unfold boxesOf at h
    split at h
    · rename_i cs hk
      split at h
      · rename_i ds r h1 h2
        cases h
        obtain ⟨h3, h4⟩ := boxesOf_spec h2
        refine ⟨by simp [h3], fun i k' ds' hi hd => ?_⟩
        cases i with
        | zero => simp at hi hd; subst hi; subst hd; exact ⟨cs, hk, h1⟩
        | succ i => simp at hi hd; exact h4 i k' ds' hi hd
      · cases h
    · cases h
theorem setBoxes_sl : ∀ {ks : List Nat} {bs : List (List D)} {st : St}, (setBoxes st ks bs).sl = st.sl ∧ (setBoxes st ks bs).nt = st.nt
  | [], _, _ => ⟨rfl, rfl⟩
  | _ :: _, [], _ => ⟨rfl, rfl⟩
  | _ :: ks, _ :: bs, _ => setBoxes_sl (ks := ks) (bs := bs)
theorem setBoxes_out : ∀ {ks : List Nat} {bs : List (List D)} {st : St} {k : Nat}, k ∉ ks → (setBoxes st ks bs).mem k = st.mem k
  | [], _, _, _, _ => rfl
  | _ :: _, [], _, _, _ => rfl
  | l :: ks, _ :: bs, st, k, h => by
    simp only [List.mem_cons, not_or] at h
    simp only [setBoxes]
    rw [setBoxes_out h.2]; exact upd_other _ _ h.1
theorem setBoxes_in : ∀ {ks : List Nat} {bs : List (List D)} {st : St} {i k : Nat} {ds : List D}, ks.Nodup → ks[i]? = some k → bs[i]? = some ds → (setBoxes st ks bs).mem k = some (.box (ds.map .d))
  | [], _, _, _, _, _, _, h, _ => by simp at h
  | _ :: _, [], _, _, _, _, _, _, h => by simp at h
  | l :: ks, b :: bs, st, i, k, ds, hn, h1, h2 => by
    rw [List.nodup_cons] at hn
    simp only [setBoxes]
    cases i with
    | zero =>
      simp at h1 h2; subst h1; subst h2
      rw [setBoxes_out hn.1]; exact set_same _ _ _
    | succ i => simp at h1 h2; exact setBoxes_in hn.2 h1 h2
theorem renAs_spec {ks : List Nat} : ∀ {as as' : List A}, renAs ks as = some as' → as'.length = as.length ∧ ∀ (i : Nat) (x y : A), as[i]? = some x → as'[i]? = some y → renA ks x = some y
  | [], as', h => by cases h; exact ⟨rfl, fun i x y h => by simp at h⟩
  | a :: as, as', h => by
    unfold renAs at h
    split at h
    · rename_i b bs h1 h2
      cases h
      obtain ⟨h3, h4⟩ := renAs_spec h2
      refine ⟨by simp [h3], fun i x y hx hy => ?_⟩
      cases i with
      | zero => simp at hx hy; subst hx; subst hy; exact h1
      | succ i => simp at hx hy; exact h4 i x y hx hy
    · cases h
/-- the ghosts at a callee's entry -/
def G.call (g : G) (ks : List Nat) : G := { g with PB := fun k => ∃ i l, k = pk i ∧ ks[i]? = some l, PC := fun _ => False, β := fun k => g.β (ks.getD (k - 100000) 0) }
theorem call_β {ks : List Nat} {i k : Nat} (h : ks[i]? = some k) : (g.call ks).β (pk i) = g.β k := by
  show g.β (ks.getD (pk i - 100000) 0) = _
  have : pk i - 100000 = i := by unfold pk; omega
  rw [this]; simp [h]
theorem renA_rep {ks : List Nat} {x y : A} {v : Value} (h : renA ks x = some y) (hk : ∀ k, hasKey x k → k ∈ ks) (hr : RepA g w x v) : RepA (g.call ks) w y v := by
  cases x <;> simp only [renA, Option.some.injEq, reduceCtorEq] at h <;> subst h
  case d x => exact hr
  case agg cs => exact hr
  case ptr k off =>
    have hm := hk k (.inl ⟨off, rfl⟩)
    obtain ⟨rfl, _⟩ := hr
    exact ⟨by rw [call_β (idx_get hm)], _, _, rfl, idx_get hm⟩
  case own n sz f t => exact hr.2.2.1
  case fn f cs =>
    obtain ⟨vs, rfl, hc⟩ := hr
    refine ⟨vs, rfl, ?_⟩
    have : ∀ (l : List Cp) (us : List Value), (∀ k, Cp.ptr k ∈ l → k ∈ ks) → RepL (RepCp g w) l us → RepL (RepCp (g.call ks) w) (l.map (renCp ks)) us := by
      intro l
      induction l with
      | nil => exact fun _ _ h => h
      | cons c l ih =>
        rintro us hk ⟨v, r, e, h1, h2⟩
        refine ⟨v, r, e, ?_, ih r (fun k hm => hk k (List.mem_cons_of_mem _ hm)) h2⟩
        cases c with
        | d x => exact h1
        | ptr k =>
          have hm := hk k List.mem_cons_self
          obtain ⟨rfl, _⟩ := h1
          exact ⟨by rw [call_β (idx_get hm)], _, _, rfl, idx_get hm⟩
    exact this cs vs.toList (fun k hm => hk k (.inr ⟨f, cs, rfl, hm⟩)) hc
theorem ev_list (hr : RepG E g w a st) : ∀ (l : List Operand), (∀ x ∈ l, allB (gOf (st.ev x)) = true) → RepL (RepA g w) (l.map fun y => strip (st.ev y)) (l.map a.eval)
  | [], _ => rfl
  | x :: l, h => ⟨_, _, rfl, strip_rep (h x List.mem_cons_self) (ev_rep hr x), ev_list hr l fun y hy => h y (List.mem_cons_of_mem _ hy)⟩
theorem caps_list : ∀ {cs : List Cp} {vs : List Value}, RepL (RepCp g w) cs vs → RepL (RepA g w) (cs.map capA) vs
  | [], _, h => h
  | .d _ :: _, _, ⟨v, r, e, h1, h2⟩ => ⟨v, r, e, h1, caps_list h2⟩
  | .ptr _ :: _, _, ⟨v, r, e, h1, h2⟩ => ⟨v, r, e, h1, caps_list h2⟩
theorem memOf_pk (bs : List (List D)) (i : Nat) : memOf bs (pk i) = match bs[i]? with | some cs => some (.box (cs.map .d)) | none => none := by
  unfold memOf
  have h1 : Nat.ble 100000 (pk i) = true := Nat.ble_eq_true_of_le (by unfold pk; omega)
  have h2 : pk i - 100000 = i := by unfold pk; omega
  rw [h1, h2]
theorem memOf_some {bs : List (List D)} {k : Nat} {m : M} (h : memOf bs k = some m) : ∃ i cs, k = pk i ∧ bs[i]? = some cs ∧ m = .box (cs.map .d) := by
  unfold memOf at h
  split at h
  · rename_i hb
    have := Nat.le_of_ble_eq_true hb
    split at h
    · rename_i cs hc; cases h; exact ⟨k - 100000, cs, by unfold pk; omega, hc, rfl⟩
    · cases h
  · cases h
theorem toDs_box {cs : List A} {ds : List D} {vs : List Value} (h : toDs cs = some ds) (hr : RepL (RepA g w) cs vs) : RepL (RepD w g.S) ds vs := toDs_rep h hr
/-- the operation that calls -/
theorem call_sound {Q : Exit → Act → World → Prop} {K : Act → World → Prop} {c : Call} {f : Nat} {as : List A} {ks : List Nat} {bs bs' : List (List D)} {r : A}
    (hop : isCall o.op = some c) (hc : callOf st c = some (f, as, ks, bs)) (hok : CallOk P f as bs r bs') (h : RepG E g w a st) {x' : A} (hx' : ∀ (g : G) (w : World) (v : Value), RepA g w r v → RepA g w x' v)
    (k : ∀ a' w', RepS E w' a' ((setBoxes st ks bs').put o.dst x') → K a' w') (hgs : ∀ x ∈ o.op.operands.toList, allB (gOf (st.ev x)) = true) : o.wp P a w K Q := by
  unfold isCall at hop
  split at hop
  · rename_i c' hop'
    split at hop
    · rename_i x hx
      cases hop
      unfold callOf at hc
      rw [hx] at hc
      simp only at hc
      split at hc
      · rename_i f' caps hev
        split at hc
        · rename_i as' bs0 h1 h2
          cases hc
          generalize hks : keysOf [] (c.args.toList.map (fun y => strip (st.ev y)) ++ caps.map capA) = ks at *
          obtain ⟨hlen, fn, body, hfn, hbody, hname, hnt, hcall⟩ := hok
          have hgx : ∀ y, y ∈ c.operands.toList → allB (gOf (st.ev y)) = true := fun y hy => hgs y (by rw [hop']; exact hy)
          have hfv := strip_rep (hgx x (by simp [Call.operands, hx])) (ev_rep h x)
          rw [hev] at hfv
          obtain ⟨cv, hfv, hcaps⟩ := hfv
          have hargs : RepL (RepA g w) (c.args.toList.map (fun y => strip (st.ev y)) ++ caps.map capA) ((c.args.map a.eval).toList ++ cv.toList) := by
            rw [Array.toList_map]; exact (ev_list h _ fun y hy => hgx y (by simp only [Call.operands, Array.toList_append, List.mem_append]; exact .inr hy)).append (caps_list hcaps)
          obtain ⟨k1, _, k3⟩ := keysOf_spec (as := c.args.toList.map (fun y => strip (st.ev y)) ++ caps.map capA) (ks := []) (by simp)
          rw [hks] at k1 k3
          obtain ⟨b1, b2⟩ := boxesOf_spec h2
          obtain ⟨r1, r2⟩ := renAs_spec h1
          let vs : Array Value := c.args.map a.eval ++ cv
          have hvl : vs.toList = (c.args.map a.eval).toList ++ cv.toList := by simp [vs]
          have hvn : vs.size = as.length := by
            have := hargs.length
            rw [← hvl] at this
            simp only [Array.length_toList] at this
            rw [this, r1]
          have hren : RepL (RepA (g.call ks) w) as vs.toList := by
            refine RepL.mk (by simp [hvn]) fun i y v hy hv => ?_
            have hi : i < (c.args.toList.map (fun y => strip (st.ev y)) ++ caps.map capA).length := by rw [← r1]; exact (List.getElem?_eq_some_iff.1 hy).1
            obtain ⟨v', hv', hrx⟩ := hargs.get (List.getElem?_eq_getElem hi)
            rw [hvl, hv'] at hv; cases hv
            exact renA_rep (r2 i _ y (List.getElem?_eq_getElem hi) hy) (fun k hk => k3 _ k (List.getElem_mem hi) hk) hrx
          let E' : Env := { w0 := w, bl := fun i => (g.call ks).β (pk i), S0 := g.S, pb := ks.map g.β }
          have hbx : ∀ (i l : Nat), ks[i]? = some l → ∃ cs ds, bs[i]? = some ds ∧ st.mem l = some (.box cs) ∧ toDs cs = some ds := by
            intro i l hi
            have : i < bs.length := by rw [b1]; exact (List.getElem?_eq_some_iff.1 hi).1
            obtain ⟨cs, h3, h4⟩ := b2 i l _ hi (List.getElem?_eq_getElem this)
            exact ⟨cs, _, List.getElem?_eq_getElem this, h3, h4⟩
          have own_pk : ∀ k b, Own (g.call ks) (initSt fn.ntmps as bs) k b → ∃ i l, k = pk i ∧ ks[i]? = some l ∧ b = g.β l := by
            rintro k b (⟨cs, h3, rfl⟩ | ⟨u, h3, _⟩)
            · obtain ⟨i, ds, rfl, h4, _⟩ := memOf_some h3
              have hi : i < ks.length := by rw [← b1]; exact (List.getElem?_eq_some_iff.1 h4).1
              exact ⟨i, _, rfl, List.getElem?_eq_getElem hi, call_β (List.getElem?_eq_getElem hi)⟩
            · obtain ⟨i, ds, _, _, h5⟩ := memOf_some h3; cases h5
          have hinit : RepG E' (g.call ks) E'.w0 (initAct fn.ntmps vs) (initSt fn.ntmps as bs) := by
            refine ⟨rfl, ?_, fun k h => h.elim, ?_, ?_, ?_, ?_, ?_, ?_, ?_, rfl, rfl, rfl, Nat.le_refl _, fun _ _ _ => rfl, fun _ _ h => h, fun _ _ h => .inl h, h.bnd, fun _ _ _ => rfl, ?_⟩
            · rintro k ⟨i, l, rfl, hi⟩
              obtain ⟨cs, ds, h3, _⟩ := hbx i l hi
              exact ⟨ds.map .d, by show memOf bs (pk i) = _; rw [memOf_pk, h3]⟩
            · have := hnt
              show (vs ++ Array.replicate (fn.ntmps - vs.size) undef).size = fn.ntmps
              simp; omega
            · intro t
              show RepA _ _ (as.getD t .undef) ((vs ++ Array.replicate (fn.ntmps - vs.size) undef).getD t undef)
              by_cases ht : t < as.length
              · obtain ⟨v, hv, hrv⟩ := hren.get (List.getElem?_eq_getElem ht)
                have e1 : as.getD t .undef = as[t] := by simp [ht]
                have e2 : (vs ++ Array.replicate (fn.ntmps - vs.size) undef).getD t undef = v := by
                  have ht' : t < vs.size := by omega
                  have hv' : vs[t]? = some v := by simpa using hv
                  rw [Array.getD_eq_getD_getElem?, Array.getElem?_append_left ht', hv']
                  rfl
                rw [e1, e2]; exact hrv
              · have e1 : as.getD t .undef = .undef := by simp [Nat.le_of_not_lt ht]
                rw [e1]; trivial
            · intro k cs hk
              obtain ⟨i, ds, rfl, h3, h4⟩ := memOf_some hk
              cases h4
              have hi : i < ks.length := by rw [← b1]; exact (List.getElem?_eq_some_iff.1 h3).1
              obtain ⟨cs, h5, h6⟩ := b2 i _ ds (List.getElem?_eq_getElem hi) h3
              obtain ⟨us, T, h7, h8, h9⟩ := h.box _ cs h5
              refine ⟨us, T, by rw [call_β (List.getElem?_eq_getElem hi)]; exact h7, RepL.map (f := A.d) (R' := RepA (g.call ks) w) (fun _ _ h => h) (toDs_rep (g := g) h6 h8), fun j hj => ?_⟩
              rw [call_β (List.getElem?_eq_getElem hi)] at hj; exact h9 j hj
            · intro k u hk
              obtain ⟨i, ds, _, _, h4⟩ := memOf_some hk; cases h4
            · intro k l b hk hl
              obtain ⟨i, k', rfl, h3, h4⟩ := own_pk k b hk
              obtain ⟨j, l', rfl, h5, h6⟩ := own_pk l b hl
              obtain ⟨cs, _, _, h7, _⟩ := hbx i k' h3
              obtain ⟨cs', _, _, h8, _⟩ := hbx j l' h5
              have : k' = l' := h.inj k' l' b (.inl ⟨cs, h7, h4⟩) (.inl ⟨cs', h8, h6⟩)
              subst this
              have hi := (List.getElem?_eq_some_iff.1 h3).1
              have hj := (List.getElem?_eq_some_iff.1 h5).1
              have : i = j := (List.getElem?_inj hi k1).1 (h3.trans h5.symm)
              rw [this]
            · intro k cs hk
              obtain ⟨i, ds, rfl, h3, _⟩ := memOf_some hk
              have hi : i < ks.length := by rw [← b1]; exact (List.getElem?_eq_some_iff.1 h3).1
              right; rw [call_β (List.getElem?_eq_getElem hi)]
              exact List.mem_map.2 ⟨_, List.getElem_mem hi, rfl⟩
            · intro k u hk
              obtain ⟨i, ds, _, _, h4⟩ := memOf_some hk; cases h4
            · intro b hb
              obtain ⟨l, hl, rfl⟩ := List.mem_map.1 hb
              obtain ⟨i, hi, rfl⟩ := List.getElem_of_mem hl
              obtain ⟨cs, _, _, h7, _⟩ := hbx i _ (List.getElem?_eq_getElem hi)
              obtain ⟨us, T, h8, _, h9⟩ := h.box _ cs h7
              exact ⟨heap_lt h8, h9⟩
          have hpb : ∀ b, b ∈ E'.pb ↔ ∃ i, i < bs.length ∧ b = (g.call ks).β (pk i) := by
            intro b
            constructor
            · intro hb
              obtain ⟨l, hl, rfl⟩ := List.mem_map.1 hb
              obtain ⟨i, hi, rfl⟩ := List.getElem_of_mem hl
              exact ⟨i, by omega, (call_β (List.getElem?_eq_getElem hi)).symm⟩
            · rintro ⟨i, hi, rfl⟩
              have hi' : i < ks.length := by omega
              rw [call_β (List.getElem?_eq_getElem hi')]
              exact List.mem_map.2 ⟨_, List.getElem_mem hi', rfl⟩
          have hcalls := hcall E' (g.call ks) vs (by omega) hinit hvn (fun _ _ => rfl) hpb
          unfold Oper.wp
          have hrun : (execOp a.eval o).run P w = .ok (.enter f vs) w := by
            rw [execOp, hop']
            have hn' : ¬ fn.name = "runtime.NumGoroutine" := by simpa using hname
            simp [resolve, hx, hfv, Deferred.ofValue, invoke, callFunc, hfn, hn', hbody, vs]
          rw [hrun]
          refine Calls.mono hcalls ?_
          rintro e w' ⟨v, S', rfl, F⟩
          -- the caller's ghosts behind the call
          let g' : G := { g with S := S' }
          have pbl : ∀ b, b ∈ E'.pb → ∀ i, ¬ g.S b i := fun b hb => (hinit.pbl b hb).2
          have hcell : ∀ b i, g.S b i → w'.cell? ⟨b, i, none⟩ = w.cell? ⟨b, i, none⟩ := fun b i hs =>
            World.cell?_of_block (w := w) (a := ⟨b, i, none⟩) (F.old b (h.bnd b i hs) (fun hp => pbl b hp i hs))
          have stp : Step g w g' w' := ⟨fun b i hs => ⟨F.sub b i hs, hcell b i hs⟩, fun k hk => ⟨hk, rfl⟩, fun k hk => ⟨hk, .inl ⟨rfl, rfl, rfl, rfl⟩⟩⟩
          have notpb : ∀ k b, k ∉ ks → Own g st k b → b ∉ E'.pb := by
            intro k b hk ho hb
            obtain ⟨l, hl, rfl⟩ := List.mem_map.1 hb
            obtain ⟨i, hi, rfl⟩ := List.getElem_of_mem hl
            obtain ⟨cs, _, _, h7, _⟩ := hbx i _ (List.getElem?_eq_getElem hi)
            exact hk (h.inj k _ _ ho (.inl ⟨cs, h7, rfl⟩) ▸ hl)
          have hSold : ∀ b i, S' b i → b < w.heap.size → g.S b i := fun b i hs hb => (F.new b i hs).resolve_right (fun hge => Nat.not_lt.2 hge hb)
          have inks : ∀ k, k ∈ ks → ∃ (i : Nat) (ds : List D), ks[i]? = some k ∧ bs'[i]? = some ds ∧ (setBoxes st ks bs').mem k = some (.box (ds.map .d)) ∧ ∃ cs, st.mem k = some (.box cs) := by
            intro k hk
            obtain ⟨i, hi, rfl⟩ := List.getElem_of_mem hk
            have hi' : i < bs'.length := by omega
            obtain ⟨cs, _, _, h7, _⟩ := hbx i _ (List.getElem?_eq_getElem hi)
            exact ⟨i, _, List.getElem?_eq_getElem hi, List.getElem?_eq_getElem hi', setBoxes_in k1 (List.getElem?_eq_getElem hi) (List.getElem?_eq_getElem hi'), cs, h7⟩
          have own' : ∀ k b, Own g' (setBoxes st ks bs') k b → Own g st k b := by
            intro k b ho
            by_cases hk : k ∈ ks
            · obtain ⟨i, ds, _, _, h3, cs, h4⟩ := inks k hk
              rcases ho with ⟨cs', h5, h6⟩ | ⟨u, h5, _⟩
              · exact .inl ⟨cs, h4, h6⟩
              · rw [h3] at h5; cases h5
            · rcases ho with ⟨cs', h5, h6⟩ | ⟨u, h5, h6, h7⟩
              · rw [setBoxes_out hk] at h5; exact .inl ⟨cs', h5, h6⟩
              · rw [setBoxes_out hk] at h5; exact .inr ⟨u, h5, h6, h7⟩
          have hg' : RepG E g' w' a (setBoxes st ks bs') := by
            refine ⟨h.df, ?_, ?_, by rw [setBoxes_sl.2]; exact h.nt, fun t => by rw [setBoxes_sl.1]; exact (h.sl t).step stp, ?_, ?_, fun k l b hk hl => h.inj k l b (own' k b hk) (own' l b hl), ?_, ?_, F.os.trans h.os, F.tape.trans h.tape, F.out.trans h.out, Nat.le_trans h.size F.size, ?_, fun b i hs => F.sub b i (h.sub b i hs), ?_, F.bnd, ?_, h.pbl⟩
            · intro k hk
              by_cases hm : k ∈ ks
              · obtain ⟨_, ds, _, _, h3, _⟩ := inks k hm; exact ⟨_, h3⟩
              · rw [setBoxes_out hm]; exact h.prb k hk
            · intro k hk
              obtain ⟨u, hu⟩ := h.prc k hk
              have hm : k ∉ ks := fun hm => by obtain ⟨_, _, _, _, _, cs, h4⟩ := inks k hm; rw [hu] at h4; cases h4
              exact ⟨u, by rw [setBoxes_out hm]; exact hu⟩
            · intro k cs hk
              by_cases hm : k ∈ ks
              · obtain ⟨i, ds, h3, h4, h5, _⟩ := inks k hm
                rw [h5] at hk; cases hk
                obtain ⟨us, T, h6, h7, h8⟩ := F.box i ds h4
                simp only [call_β h3] at h6 h8
                exact ⟨us, T, h6, RepL.map (f := A.d) (R' := RepA g' w') (fun _ _ h => h) h7, h8⟩
              · rw [setBoxes_out hm] at hk
                obtain ⟨us, T, h6, h7, h8⟩ := h.box k cs hk
                have ho : Own g st k (g.β k) := .inl ⟨cs, hk, rfl⟩
                refine ⟨us, T, (F.old _ (heap_lt h6) (notpb k _ hm ho)).trans h6, h7.mono fun _ _ hx => hx.step stp, fun i hs => h8 i (hSold _ i hs (heap_lt h6))⟩
            · intro k u hk
              have hm : k ∉ ks := fun hm => by obtain ⟨_, _, _, _, h3, _⟩ := inks k hm; rw [h3] at hk; cases hk
              rw [setBoxes_out hm] at hk
              obtain ⟨h5, h6⟩ := h.chain k u hk
              refine ⟨h5, fun hu => ?_⟩
              obtain ⟨us, T, h7, h8, h9, h10⟩ := h6 hu
              have ho : Own g st k (g.cb k) := .inr ⟨u, hk, hu, rfl⟩
              exact ⟨us, T, (F.old _ (heap_lt h7) (notpb k _ hm ho)).trans h7, h8, h9, fun i hs => h10 i (hSold _ i hs (heap_lt h7))⟩
            · intro k cs hk
              exact h.own k _ (own' k _ (.inl ⟨cs, hk, rfl⟩))
            · intro k u hk hu
              have hm : k ∉ ks := fun hm => by obtain ⟨_, _, _, _, h3, _⟩ := inks k hm; rw [h3] at hk; cases hk
              rw [setBoxes_out hm] at hk; exact h.ownc k u hk hu
            · intro b hb hp
              by_cases hbp : b ∈ E'.pb
              · obtain ⟨l, hl, rfl⟩ := List.mem_map.1 hbp
                obtain ⟨_, _, _, _, _, cs, h4⟩ := inks l hl
                rcases h.ownb l cs h4 with h5 | h5
                · omega
                · exact absurd h5 hp
              · exact (F.old b (Nat.lt_of_lt_of_le hb h.size) hbp).trans (h.old b hb hp)
            · intro b i hs
              rcases F.new b i hs with h3 | h3
              · exact h.new b i h3
              · exact .inr (Nat.le_trans h.size h3)
            · intro i cs hi
              by_cases hm : pk i ∈ ks
              · obtain ⟨_, _, _, _, _, cs', h4⟩ := inks _ hm; exact h.par i cs' h4
              · rw [setBoxes_out hm] at hi; exact h.par i cs hi
          exact k _ _ ⟨g', hg'.put (hx' _ _ _ (F.res g' rfl)) o.dst⟩
        · cases hc
      · cases hc
    · cases hop
  · cases hop
end Go.Ab
