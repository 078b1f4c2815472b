/- What an abstract value, and an abstract state, says of a world. -/
import Derived.Test.YtggkkkpafealkaaAbB
namespace Go.Ab
def RepD (w : World) (S : Nat → Nat → Prop) : D → Value → Prop
  | .int k n, v => v = .int k n
  | .bool b, v => v = .bool b
  | .str s, v => v = .string s
  | .nil, v => v = .slice none 0 0
  | .nilp, v => v = .pointer none
  | .sl n sz f, v => (n = 0 ∧ v = .slice none 0 0) ∨ ∃ b off cap, v = .slice (some ⟨b, off, none⟩) n cap ∧ n ≤ cap ∧
      ∀ i, i < n → ∀ j, j < sz → S b (off + i * sz + j) ∧ ∃ u, w.cell? ⟨b, off + i * sz + j, none⟩ = some u ∧ RepD w S (f i j) u
def RepL {α : Type} (R : α → Value → Prop) : List α → List Value → Prop
  | [], vs => vs = []
  | x :: xs, vs => ∃ v r, vs = v :: r ∧ R x v ∧ RepL R xs r
def RepV (w : World) (S : Nat → Nat → Prop) : V → Value → Prop
  | .d x, v => RepD w S x v
  | .agg cs, v => ∃ vs, v = .agg vs ∧ RepL (RepD w S) cs vs.toList
structure G where
  PB : Nat → Prop
  PC : Nat → Prop
  β : Nat → Nat
  cb : Nat → Nat
  S : Nat → Nat → Prop
  used : Nat → Nat
  cap : Nat → Nat
  sz : Nat → Nat
def RepCp (g : G) (w : World) : Cp → Value → Prop
  | .d x, v => RepD w g.S x v
  | .ptr k, v => v = .pointer (some ⟨g.β k, 0, none⟩) ∧ g.PB k
def RepA (g : G) (w : World) : A → Value → Prop
  | .undef, _ => True
  | .d x, v => RepD w g.S x v
  | .agg cs, v => ∃ vs, v = .agg vs ∧ RepL (RepD w g.S) cs vs.toList
  | .tup xs, v => ∃ vs, v = .tuple vs ∧ RepL (RepV w g.S) xs vs.toList
  | .ptr k off, v => v = .pointer (some ⟨g.β k, off, none⟩) ∧ g.PB k
  | .rp n c, v => ∃ b off, v = .pointer (some ⟨b, off, none⟩) ∧ ∀ j, j < n → g.S b (off + j) ∧ ∃ u, w.cell? ⟨b, off + j, none⟩ = some u ∧ RepD w g.S (c j) u
  | .own n sz f t, v => g.PC t ∧ n ≤ g.used t ∧ RepD w g.S (.sl n sz f) v ∧ (n = 0 → v = .slice none 0 0) ∧ (0 < n → n = g.used t → sz = g.sz t ∧ v = .slice (some ⟨g.cb t, 0, none⟩) n (g.cap t))
  | .fn f cs, v => ∃ vs, v = .func (.func f) #[] vs ∧ RepL (RepCp g w) cs vs.toList
  | .opt gs a, v => (allB gs = true → RepA g w a v) ∧ (allB gs = false → v = undef)
/-- the key of a box that came in -/
def pk (i : Nat) : Nat := 100000 + i
structure Env where
  w0 : World
  bl : Nat → Nat
  S0 : Nat → Nat → Prop
  pb : List Nat
/-- block b is the one behind key k -/
def Own (g : G) (st : St) (k b : Nat) : Prop := (∃ cs, st.mem k = some (.box cs) ∧ b = g.β k) ∨ ∃ u, st.mem k = some (.chain u) ∧ 0 < u ∧ b = g.cb k
structure RepG (E : Env) (g : G) (w : World) (a : Act) (st : St) : Prop where
  df : a.defers = []
  prb : ∀ k, g.PB k → ∃ cs, st.mem k = some (.box cs)
  prc : ∀ k, g.PC k → ∃ u, st.mem k = some (.chain u)
  nt : a.tmps.size = st.nt
  sl : ∀ t, RepA g w (st.sl t) (a.tmps.getD t undef)
  box : ∀ k cs, st.mem k = some (.box cs) → ∃ vs T, w.heap[g.β k]? = some (.cells vs T (0, 0)) ∧ RepL (RepA g w) cs vs.toList ∧ ∀ i, ¬ g.S (g.β k) i
  chain : ∀ k u, st.mem k = some (.chain u) → u = g.used k ∧ (0 < u → ∃ vs T, w.heap[g.cb k]? = some (.cells vs T (0, 0)) ∧ vs.size = g.cap k * g.sz k ∧ u ≤ g.cap k ∧ ∀ i, g.S (g.cb k) i → i < u * g.sz k)
  inj : ∀ k l b, Own g st k b → Own g st l b → k = l
  ownb : ∀ k cs, st.mem k = some (.box cs) → E.w0.heap.size ≤ g.β k ∨ g.β k ∈ E.pb
  ownc : ∀ k u, st.mem k = some (.chain u) → 0 < u → E.w0.heap.size ≤ g.cb k
  os : w.os = E.w0.os
  tape : w.tape = E.w0.tape
  out : w.output = E.w0.output
  size : E.w0.heap.size ≤ w.heap.size
  old : ∀ b, b < E.w0.heap.size → b ∉ E.pb → w.heap[b]? = E.w0.heap[b]?
  sub : ∀ b i, E.S0 b i → g.S b i
  new : ∀ b i, g.S b i → E.S0 b i ∨ E.w0.heap.size ≤ b
  bnd : ∀ b i, g.S b i → b < w.heap.size
  par : ∀ i cs, st.mem (pk i) = some (.box cs) → g.β (pk i) = E.bl i
  pbl : ∀ b, b ∈ E.pb → b < E.w0.heap.size ∧ ∀ i, ¬ E.S0 b i
theorem RepG.own {E : Env} {g : G} {w : World} {a : Act} {st : St} (h : RepG E g w a st) : ∀ k b, Own g st k b → E.w0.heap.size ≤ b ∨ b ∈ E.pb := by
  rintro k b (⟨cs, h1, rfl⟩ | ⟨u, h1, h2, rfl⟩)
  · exact h.ownb k cs h1
  · exact .inl (h.ownc k u h1 h2)
def RepS (E : Env) (w : World) (a : Act) (st : St) : Prop := ∃ g, RepG E g w a st
def St.le (st st' : St) : Prop := ∀ E w a, RepS E w a st → RepS E w a st'

/-! ### a later world says the same of data -/
theorem RepD.mono {w w' : World} {S S' : Nat → Nat → Prop} (hS : ∀ b i, S b i → S' b i ∧ w'.cell? ⟨b, i, none⟩ = w.cell? ⟨b, i, none⟩) :
    ∀ {x : D} {v : Value}, RepD w S x v → RepD w' S' x v := by
  intro x
  induction x with
  | sl n sz f ih =>
    intro v h
    rcases h with h | ⟨b, off, cap, hv, hn, h⟩
    · exact .inl h
    · refine .inr ⟨b, off, cap, hv, hn, fun i hi j hj => ?_⟩
      obtain ⟨h1, u, h2, h3⟩ := h i hi j hj
      exact ⟨(hS _ _ h1).1, u, (hS _ _ h1).2.trans h2, ih i j h3⟩
  | _ => exact fun h => h
theorem RepL.mono {α : Type} {R R' : α → Value → Prop} (h : ∀ x v, R x v → R' x v) : ∀ {l : List α} {vs : List Value}, RepL R l vs → RepL R' l vs
  | [], _, hl => hl
  | _ :: _, _, ⟨v, r, e, h1, h2⟩ => ⟨v, r, e, h _ _ h1, RepL.mono h h2⟩
theorem RepL.length {α : Type} {R : α → Value → Prop} : ∀ {l : List α} {vs : List Value}, RepL R l vs → vs.length = l.length
  | [], _, hl => by simp [RepL] at hl; simp [hl]
  | _ :: _, _, ⟨v, r, e, _, h2⟩ => by simp [e, RepL.length h2]
theorem RepL.get {α : Type} {R : α → Value → Prop} : ∀ {l : List α} {vs : List Value}, RepL R l vs → ∀ {i : Nat} {x : α}, l[i]? = some x → ∃ v, vs[i]? = some v ∧ R x v
  | [], _, _, i, x, h => by simp at h
  | _ :: _, _, ⟨v, r, e, h1, h2⟩, i, x, h => by
    subst e
    cases i with
    | zero => simp at h; subst h; exact ⟨v, rfl, h1⟩
    | succ i => simp at h; simpa using RepL.get h2 h
theorem RepL.mk {α : Type} {R : α → Value → Prop} : ∀ {l : List α} {vs : List Value}, vs.length = l.length → (∀ (i : Nat) (x : α) (v : Value), l[i]? = some x → vs[i]? = some v → R x v) → RepL R l vs
  | [], vs, hn, _ => by cases vs with | nil => rfl | cons => simp at hn
  | x :: l, vs, hn, h => by
    cases vs with
    | nil => simp at hn
    | cons v r => exact ⟨v, r, rfl, h 0 x v rfl rfl, RepL.mk (by simpa using hn) fun i x v h1 h2 => h (i + 1) x v (by simpa using h1) (by simpa using h2)⟩
theorem RepL.append {α : Type} {R : α → Value → Prop} : ∀ {l : List α} {vs : List Value} {l' : List α} {vs' : List Value}, RepL R l vs → RepL R l' vs' → RepL R (l ++ l') (vs ++ vs')
  | [], _, _, _, h, h' => by simp [RepL] at h; simpa [h] using h'
  | _ :: _, _, _, _, ⟨v, r, e, h1, h2⟩, h' => ⟨v, r ++ _, by simp [e], h1, RepL.append h2 h'⟩
theorem RepL.drop {α : Type} {R : α → Value → Prop} : ∀ (n : Nat) {l : List α} {vs : List Value}, RepL R l vs → RepL R (l.drop n) (vs.drop n)
  | 0, _, _, h => h
  | n + 1, [], _, h => by simp [RepL] at h; simp [h, RepL]
  | n + 1, _ :: _, _, ⟨_, _, e, _, h2⟩ => by subst e; exact RepL.drop n h2
theorem RepL.take {α : Type} {R : α → Value → Prop} : ∀ (n : Nat) {l : List α} {vs : List Value}, RepL R l vs → RepL R (l.take n) (vs.take n)
  | 0, _, _, _ => by simp [RepL]
  | n + 1, [], _, h => by simp [RepL] at h; simp [h, RepL]
  | n + 1, _ :: _, _, ⟨v, r, e, h1, h2⟩ => by subst e; exact ⟨v, r.take n, rfl, h1, RepL.take n h2⟩
theorem RepL.set {α : Type} {R : α → Value → Prop} {x : α} {v : Value} (hx : R x v) : ∀ (n : Nat) {l : List α} {vs : List Value}, RepL R l vs → RepL R (l.set n x) (vs.set n v)
  | _, [], _, h => by simp [RepL] at h; simp [h, RepL]
  | 0, _ :: _, _, ⟨_, r, e, _, h2⟩ => by subst e; exact ⟨v, r, rfl, hx, h2⟩
  | n + 1, _ :: _, _, ⟨u, r, e, h1, h2⟩ => by subst e; exact ⟨u, r.set n v, rfl, h1, RepL.set hx n h2⟩
theorem RepL.map {α β : Type} {R : α → Value → Prop} {R' : β → Value → Prop} {f : α → β} (h : ∀ x v, R x v → R' (f x) v) : ∀ {l : List α} {vs : List Value}, RepL R l vs → RepL R' (l.map f) vs
  | [], _, hl => hl
  | _ :: _, _, ⟨v, r, e, h1, h2⟩ => ⟨v, r, e, h _ _ h1, RepL.map h h2⟩
theorem RepV.mono {w w' : World} {S S' : Nat → Nat → Prop} (hS : ∀ b i, S b i → S' b i ∧ w'.cell? ⟨b, i, none⟩ = w.cell? ⟨b, i, none⟩) {x : V} {v : Value} (h : RepV w S x v) : RepV w' S' x v := by
  cases x with
  | d x => exact RepD.mono hS h
  | agg cs => obtain ⟨vs, e, h⟩ := h; exact ⟨vs, e, h.mono fun _ _ => RepD.mono hS⟩
/-- a step of the ghosts and the world under which a value still says the same; an owned slice may cease to be the last of its chain -/
structure Step (g : G) (w : World) (g' : G) (w' : World) : Prop where
  S : ∀ b i, g.S b i → g'.S b i ∧ w'.cell? ⟨b, i, none⟩ = w.cell? ⟨b, i, none⟩
  bx : ∀ k, g.PB k → g'.PB k ∧ g'.β k = g.β k
  ch : ∀ k, g.PC k → g'.PC k ∧ ((g'.cb k = g.cb k ∧ g'.used k = g.used k ∧ g'.cap k = g.cap k ∧ g'.sz k = g.sz k) ∨ g.used k < g'.used k)
theorem Step.refl (g : G) (w : World) : Step g w g w := ⟨fun _ _ h => ⟨h, rfl⟩, fun _ h => ⟨h, rfl⟩, fun _ h => ⟨h, .inl ⟨rfl, rfl, rfl, rfl⟩⟩⟩
theorem RepCp.step {g g' : G} {w w' : World} (s : Step g w g' w') {x : Cp} {v : Value} (h : RepCp g w x v) : RepCp g' w' x v := by
  cases x with
  | d x => exact RepD.mono s.S h
  | ptr k => obtain ⟨rfl, h⟩ := h; have := s.bx k h; exact ⟨by rw [this.2], this.1⟩
/-- an owned slice stays one, where it may not be the last of its chain: its length is at most what was used -/
theorem RepA.step {g g' : G} {w w' : World} (s : Step g w g' w') : ∀ {a : A} {v : Value}, RepA g w a v → RepA g' w' a v := by
  intro a
  induction a with
  | undef => exact fun _ => trivial
  | d x => exact RepD.mono s.S
  | agg cs => intro v h; obtain ⟨vs, e, h⟩ := h; exact ⟨vs, e, h.mono fun _ _ => RepD.mono s.S⟩
  | tup xs => intro v h; obtain ⟨vs, e, h⟩ := h; exact ⟨vs, e, h.mono fun _ _ => RepV.mono s.S⟩
  | ptr k off => intro v h; obtain ⟨rfl, h⟩ := h; have := s.bx k h; exact ⟨by rw [this.2], this.1⟩
  | rp n c =>
    intro v h; obtain ⟨b, off, e, h⟩ := h
    refine ⟨b, off, e, fun j hj => ?_⟩
    obtain ⟨h1, u, h2, h3⟩ := h j hj
    exact ⟨(s.S _ _ h1).1, u, (s.S _ _ h1).2.trans h2, h3.mono s.S⟩
  | own n sz f t =>
    intro v h
    obtain ⟨h0, hn, h1, h2, h3⟩ := h
    have hc := s.ch t h0
    refine ⟨hc.1, ?_, RepD.mono s.S h1, h2, fun hp hv => ?_⟩
    · rcases hc.2 with ⟨_, e2, _⟩ | hlt <;> omega
    · rcases hc.2 with ⟨e1, e2, e3, e4⟩ | hlt
      · rw [e1, e3, e4]; exact h3 hp (hv.trans e2)
      · omega
  | fn f cs => intro v h; obtain ⟨vs, e, h⟩ := h; exact ⟨vs, e, h.mono fun _ _ => RepCp.step s⟩
  | opt b a ih => intro v h; exact ⟨fun hb => ih (h.1 hb), h.2⟩
end Go.Ab
