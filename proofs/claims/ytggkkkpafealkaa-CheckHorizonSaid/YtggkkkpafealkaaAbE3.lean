/- Operations that make or turn memory are sound. -/
import Derived.Test.YtggkkkpafealkaaAbE2
namespace Go.Ab
open Go
variable {P : Program} {E : Env} {g : G} {w : World} {a : Act} {st : St} {ρ : Operand → A} {ρv : Operand → Value} {dst : Option Nat} {o : Oper}
theorem upd_same {α : Type} (f : Nat → α) (k : Nat) (v : α) : upd f k v k = v := by unfold upd; rw [Nat.beq_refl]
theorem upd_other {α : Type} (f : Nat → α) {k t : Nat} (v : α) (h : t ≠ k) : upd f k v t = f t := by
  unfold upd
  have : Nat.beq t k = false := by cases hb : Nat.beq t k with | false => rfl | true => exact absurd (Nat.eq_of_beq_eq_true hb) h
  rw [this]
theorem upd_apply {α : Type} (f : Nat → α) (k t : Nat) (v : α) : upd f k v t = if t = k then v else f t := by
  by_cases h : t = k
  · subst h; rw [upd_same, if_pos rfl]
  · rw [upd_other f v h, if_neg h]
theorem set_same (st : St) (k : Nat) (m : M) : (st.set k m).mem k = some m := upd_same _ _ _
theorem hao (w : World) (o : Obj) {i : Nat} (h : i < w.heap.size) : (w.alloc o).heap[i]? = w.heap[i]? := by
  show (w.heap.push o)[i]? = _
  rw [Array.getElem?_push, if_neg (by omega)]
theorem han (w : World) (o : Obj) : (w.alloc o).heap[w.heap.size]? = some o := by
  show (w.heap.push o)[w.heap.size]? = _
  rw [Array.getElem?_push, if_pos rfl]
theorem cell_alloc_old {b i : Nat} (o : Obj) (h : b < w.heap.size) : (w.alloc o).cell? ⟨b, i, none⟩ = w.cell? ⟨b, i, none⟩ := World.cell?_of_block (w := w) (a := ⟨b, i, none⟩) (hao w o h)
theorem heap_lt {b : Nat} {o : Obj} (h : w.heap[b]? = some o) : b < w.heap.size := (Array.getElem?_eq_some_iff.1 h).1
theorem Own.lt (h : RepG E g w a st) {k b : Nat} (ho : Own g st k b) : b < w.heap.size := by
  rcases ho with ⟨cs, hk, rfl⟩ | ⟨u, hk, hu, rfl⟩
  · obtain ⟨vs, T, hb, _⟩ := h.box k cs hk; exact heap_lt hb
  · obtain ⟨vs, T, hb, _⟩ := (h.chain k u hk).2 hu; exact heap_lt hb
/-- a new block that is stable from the first -/
theorem newStable (h : RepG E g w a st) (cells : Array Value) (T : TypeId) :
    ∃ g', Step g w g' (w.alloc (.cells cells T)) ∧ RepG E g' (w.alloc (.cells cells T)) a st ∧ g'.S = (fun b i => g.S b i ∨ b = w.heap.size) := by
  have st' : Step g w { g with S := fun b i => g.S b i ∨ b = w.heap.size } (w.alloc (.cells cells T)) :=
    ⟨fun b i hs => ⟨.inl hs, cell_alloc_old _ (h.bnd b i hs)⟩, fun k hk => ⟨hk, rfl⟩, fun k hk => ⟨hk, .inl ⟨rfl, rfl, rfl, rfl⟩⟩⟩
  refine ⟨{ g with S := fun b i => g.S b i ∨ b = w.heap.size }, st', ?_, rfl⟩
  refine ⟨h.df, h.prb, h.prc, h.nt, fun t => (h.sl t).step st', ?_, ?_, h.inj, h.ownb, h.ownc, h.os, h.tape, h.out, ?_, ?_, ?_, ?_, ?_, h.par, h.pbl⟩
  · intro k cs hk
    obtain ⟨vs, T', hb, hr, hS⟩ := h.box k cs hk
    have hlt := heap_lt hb
    refine ⟨vs, T', (hao w _ hlt).trans hb, hr.mono fun _ _ hx => hx.step st', fun i hi => ?_⟩
    rcases hi with hi | hi
    · exact hS i hi
    · change g.β k = _ at hi; omega
  · intro k u hk
    obtain ⟨h1, h2⟩ := h.chain k u hk
    refine ⟨h1, fun hu => ?_⟩
    obtain ⟨vs, T', hb, h3, h4, h5⟩ := h2 hu
    have hlt := heap_lt hb
    refine ⟨vs, T', (hao w _ hlt).trans hb, h3, h4, fun i hi => ?_⟩
    rcases hi with hi | hi
    · exact h5 i hi
    · change g.cb k = _ at hi; omega
  · have := h.size; simp; omega
  · intro b hb hp
    exact (hao w _ (Nat.lt_of_lt_of_le hb h.size)).trans (h.old b hb hp)
  · exact fun b i hs => .inl (h.sub b i hs)
  · intro b i hs
    rcases hs with hs | rfl
    · exact h.new b i hs
    · exact .inr h.size
  · intro b i hs
    rcases hs with hs | rfl
    · have := h.bnd b i hs; simp; omega
    · simp
/-- a new box -/
theorem newBox (h : RepG E g w a st) (cells : Array Value) (T : TypeId) {d : Nat} {cs : List A} (hd : st.mem d = none) (hd2 : d < 100000) (hr : RepL (RepA g w) cs cells.toList) :
    ∃ g', Step g w g' (w.alloc (.cells cells T)) ∧ RepG E g' (w.alloc (.cells cells T)) a (st.set d (.box cs)) ∧ g'.PB d ∧ g'.β d = w.heap.size := by
  have hnd : ¬ g.PB d := fun hp => by obtain ⟨cs, hk⟩ := h.prb d hp; rw [hd] at hk; cases hk
  have hnc : ¬ g.PC d := fun hp => by obtain ⟨cs, hk⟩ := h.prc d hp; rw [hd] at hk; cases hk
  have ob : ∀ k, k ≠ d → upd g.β d w.heap.size k = g.β k := fun k hk => upd_other _ _ hk
  have om : ∀ k, k ≠ d → (st.set d (.box cs)).mem k = st.mem k := fun k hk => upd_other _ _ hk
  have st' : Step g w { g with PB := fun k => k = d ∨ g.PB k, β := upd g.β d w.heap.size } (w.alloc (.cells cells T)) :=
    ⟨fun b i hs => ⟨hs, cell_alloc_old _ (h.bnd b i hs)⟩, fun k hk => ⟨.inr hk, ob k (fun e => hnd (e ▸ hk))⟩, fun k hk => ⟨hk, .inl ⟨rfl, rfl, rfl, rfl⟩⟩⟩
  have own' : ∀ k b, Own { g with PB := fun k => k = d ∨ g.PB k, β := upd g.β d w.heap.size } (st.set d (.box cs)) k b → (k = d ∧ b = w.heap.size) ∨ (k ≠ d ∧ Own g st k b) := by
    intro k b ho
    by_cases hk : k = d
    · subst hk
      rcases ho with ⟨cs', _, rfl⟩ | ⟨u, hu, _⟩
      · exact .inl ⟨rfl, upd_same _ _ _⟩
      · rw [set_same] at hu; cases hu
    · refine .inr ⟨hk, ?_⟩
      rcases ho with ⟨cs', h1, rfl⟩ | ⟨u, h1, h2, rfl⟩
      · rw [om k hk] at h1; exact .inl ⟨cs', h1, ob k hk⟩
      · rw [om k hk] at h1; exact .inr ⟨u, h1, h2, rfl⟩
  refine ⟨_, st', ?_, .inl rfl, upd_same _ _ _⟩
  refine ⟨h.df, ?_, ?_, h.nt, fun t => (h.sl t).step st', ?_, ?_, ?_, ?_, ?_, h.os, h.tape, h.out, ?_, ?_, h.sub, h.new, ?_, fun i cs' hk => by
      have hne : pk i ≠ d := by unfold pk; omega
      show upd g.β d w.heap.size (pk i) = _
      rw [ob _ hne]; rw [om _ hne] at hk; exact h.par i cs' hk, h.pbl⟩
  · intro k hk
    by_cases hkd : k = d
    · subst hkd; exact ⟨cs, upd_same _ _ _⟩
    · rcases hk with hk | hk
      · exact absurd hk hkd
      · obtain ⟨cs', h1⟩ := h.prb k hk; exact ⟨cs', (om k hkd).trans h1⟩
  · intro k hk
    obtain ⟨u, h1⟩ := h.prc k hk
    have hkd : k ≠ d := fun e => hnc (e ▸ hk)
    exact ⟨u, (om k hkd).trans h1⟩
  · intro k cs' hk
    by_cases hkd : k = d
    · subst hkd
      rw [set_same] at hk; cases hk
      refine ⟨cells, T, ?_, hr.mono fun _ _ hx => hx.step st', fun i hi => ?_⟩
      · show (w.alloc _).heap[upd g.β k w.heap.size k]? = _
        rw [upd_same]; exact han w _
      · change g.S (upd g.β k w.heap.size k) i at hi
        rw [upd_same] at hi; have := h.bnd _ _ hi; omega
    · rw [om k hkd] at hk
      obtain ⟨vs, T', hb, hr', hS⟩ := h.box k cs' hk
      have hlt := heap_lt hb
      refine ⟨vs, T', ?_, hr'.mono fun _ _ hx => hx.step st', fun i hi => ?_⟩
      · show (w.alloc _).heap[upd g.β d w.heap.size k]? = _
        rw [ob k hkd, hao w _ hlt]; exact hb
      · change g.S (upd g.β d w.heap.size k) i at hi
        rw [ob k hkd] at hi; exact hS i hi
  · intro k u hk
    have hkd : k ≠ d := fun e => by subst e; rw [set_same] at hk; cases hk
    rw [om k hkd] at hk
    obtain ⟨h1, h2⟩ := h.chain k u hk
    refine ⟨h1, fun hu => ?_⟩
    obtain ⟨vs, T', hb, h3, h4, h5⟩ := h2 hu
    exact ⟨vs, T', (hao w _ (heap_lt hb)).trans hb, h3, h4, h5⟩
  · intro k l b hk hl
    rcases own' k b hk with ⟨rfl, rfl⟩ | ⟨hk1, hk2⟩ <;> rcases own' l _ hl with ⟨rfl, hb⟩ | ⟨hl1, hl2⟩
    · rfl
    · have := hl2.lt h; omega
    · subst hb; have := hk2.lt h; omega
    · exact h.inj k l b hk2 hl2
  · intro k cs' hk
    by_cases hkd : k = d
    · subst hkd; left; show _ ≤ upd g.β k w.heap.size k; rw [upd_same]; exact h.size
    · rw [om k hkd] at hk; show _ ≤ upd g.β d w.heap.size k ∨ upd g.β d w.heap.size k ∈ _; rw [ob k hkd]; exact h.ownb k cs' hk
  · intro k u hk hu
    have hkd : k ≠ d := fun e => by subst e; rw [set_same] at hk; cases hk
    rw [om k hkd] at hk; exact h.ownc k u hk hu
  · have := h.size; simp; omega
  · intro b hb hp
    exact (hao w _ (Nat.lt_of_lt_of_le hb h.size)).trans (h.old b hb hp)
  · intro b i hs; have := h.bnd b i hs; simp; omega
/-- a box is written -/
theorem setBox (h : RepG E g w a st) {k : Nat} {cs cs' : List A} {vs vs' : Array Value} {T : TypeId} {w' : World} (hk : st.mem k = some (.box cs)) (hb : w.heap[g.β k]? = some (.cells vs T (0, 0)))
    (hw : w'.heap[g.β k]? = some (.cells vs' T (0, 0))) (ho : ∀ b, b ≠ g.β k → w'.heap[b]? = w.heap[b]?) (hs : w'.heap.size = w.heap.size) (h1 : w'.os = w.os) (h2 : w'.tape = w.tape) (h3 : w'.output = w.output)
    (hr : ∀ g' w', Step g w g' w' → RepL (RepA g' w') cs' vs'.toList) : Step g w g w' ∧ RepG E g w' a (st.set k (.box cs')) := by
  obtain ⟨vs0, T0, hb0, _, hS⟩ := h.box k cs hk
  have st' : Step g w g w' := ⟨fun b i hs' => ⟨hs', World.cell?_of_block (w := w) (a := ⟨b, i, none⟩) (ho b (fun e => hS i (e ▸ hs')))⟩, fun k hk => ⟨hk, rfl⟩, fun k hk => ⟨hk, .inl ⟨rfl, rfl, rfl, rfl⟩⟩⟩
  have om : ∀ l, l ≠ k → (st.set k (.box cs')).mem l = st.mem l := fun l hl => upd_other _ _ hl
  have ok : Own g st k (g.β k) := .inl ⟨cs, hk, rfl⟩
  have own' : ∀ l b, Own g (st.set k (.box cs')) l b → Own g st l b := by
    intro l b hl
    by_cases hlk : l = k
    · subst hlk
      rcases hl with ⟨c2, _, rfl⟩ | ⟨u, hu, _⟩
      · exact ok
      · rw [set_same] at hu; cases hu
    · rcases hl with ⟨c2, h4, rfl⟩ | ⟨u, h4, h5, rfl⟩
      · rw [om l hlk] at h4; exact .inl ⟨c2, h4, rfl⟩
      · rw [om l hlk] at h4; exact .inr ⟨u, h4, h5, rfl⟩
  refine ⟨st', h.df, ?_, ?_, h.nt, fun t => (h.sl t).step st', ?_, ?_, fun l m b hl hm => h.inj l m b (own' l b hl) (own' m b hm), ?_, ?_, h1.trans h.os, h2.trans h.tape, h3.trans h.out, ?_, ?_, h.sub, h.new, ?_, fun i c2 hi => by
      by_cases hik : pk i = k
      · exact h.par i cs (hik ▸ hk)
      · rw [om _ hik] at hi; exact h.par i c2 hi, h.pbl⟩
  · intro l hl
    by_cases hlk : l = k
    · subst hlk; exact ⟨cs', upd_same _ _ _⟩
    · obtain ⟨c2, h4⟩ := h.prb l hl; exact ⟨c2, (om l hlk).trans h4⟩
  · intro l hl
    obtain ⟨u, h4⟩ := h.prc l hl
    have hlk : l ≠ k := fun e => by subst e; rw [hk] at h4; cases h4
    exact ⟨u, (om l hlk).trans h4⟩
  · intro l c2 hl
    by_cases hlk : l = k
    · subst hlk
      rw [set_same] at hl; cases hl
      exact ⟨vs', T, hw, hr _ _ st', hS⟩
    · rw [om l hlk] at hl
      obtain ⟨v2, T2, hb2, hr2, hS2⟩ := h.box l c2 hl
      have hne : g.β l ≠ g.β k := fun e => hlk (h.inj l k _ (.inl ⟨c2, hl, rfl⟩) (e ▸ ok))
      exact ⟨v2, T2, (ho _ hne).trans hb2, hr2.mono fun _ _ hx => hx.step st', hS2⟩
  · intro l u hl
    have hlk : l ≠ k := fun e => by subst e; rw [set_same] at hl; cases hl
    rw [om l hlk] at hl
    obtain ⟨h4, h5⟩ := h.chain l u hl
    refine ⟨h4, fun hu => ?_⟩
    obtain ⟨v2, T2, hb2, h6⟩ := h5 hu
    have hne : g.cb l ≠ g.β k := fun e => hlk (h.inj l k _ (.inr ⟨u, hl, hu, rfl⟩) (e ▸ ok))
    exact ⟨v2, T2, (ho _ hne).trans hb2, h6⟩
  · intro l c2 hl
    exact h.own l _ (own' l _ (.inl ⟨c2, hl, rfl⟩))
  · intro l u hl hu
    have hlk : l ≠ k := fun e => by subst e; rw [set_same] at hl; cases hl
    rw [om l hlk] at hl; exact h.ownc l u hl hu
  · have := h.size; omega
  · intro b hb' hp
    have hne : b ≠ g.β k := fun e => by
      rcases h.own k _ ok with h4 | h4
      · omega
      · exact hp (e ▸ h4)
    exact (ho b hne).trans (h.old b hb' hp)
  · intro b i hs'; have := h.bnd b i hs'; omega
end Go.Ab
