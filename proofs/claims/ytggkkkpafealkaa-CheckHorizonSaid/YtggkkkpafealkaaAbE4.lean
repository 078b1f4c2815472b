/- Append is sound. -/
import Derived.Test.YtggkkkpafealkaaAbE3
import Derived.Laws.Append
import Derived.Laws.CopyRow
namespace Go.Ab
open Go
variable {P : Program} {E : Env} {g : G} {w : World} {a : Act} {st : St} {ρ : Operand → A} {ρv : Operand → Value} {dst : Option Nat} {o : Oper}
theorem append_room (t ty e : TypeId) (i : TypeInfo) (ht : P.underlying t = some (.slice e)) (hi : P.info? e = some i)
    (b sLen sCap : Nat) (T : TypeId) (cur : Array Value) (hg : w.heap[b]? = some (.cells cur T (0, 0)))
    (ad : Addr) (m c : Nat) (news : List Value) (hl : news.length = m * i.size) (hnews : ∀ j u, news[j]? = some u → w.cell? (ad.add j) = some u) (h1 : ∀ u ∈ news, u.oneCell' = true)
    (hroom : sLen + m ≤ sCap) (hfit : sLen * i.size + news.length ≤ cur.size) :
    (Builtin.append_ #[t, t] ty #[.slice (some ⟨b, 0, none⟩) sLen sCap, .slice (some ad) m c]).run P w =
      .ok (.slice (some ⟨b, 0, none⟩) (sLen + m) sCap) (w.setRow b (cur.toList.take (sLen * i.size) ++ news ++ cur.toList.drop (sLen * i.size + news.length)).toArray) := by
  have hf := run_firstCells_some (P := P) w i.size m ad m c news hl hnews
  have hst := run_storeCells_at P b (sLen * i.size) T news 0 cur w hg (by simpa using hfit) h1
  simp only [Nat.add_zero] at hst
  simp [Builtin.append_, run_underlying ht, sizeOf, typeInfo, hi, Builtin.lenOf, hroom, hf, Addr.add_lit, hst]
theorem append_none (t ty e : TypeId) (i : TypeInfo) (ht : P.underlying t = some (.slice e)) (hi : P.info? e = some i) (b : Option Addr) (n cap : Nat) (h : n ≤ cap) :
    (Builtin.append_ #[t, t] ty #[.slice b n cap, .slice none 0 0]).run P w = .ok (.slice b n cap) w := by
  cases b <;> simp [Builtin.append_, run_underlying ht, sizeOf, typeInfo, hi, Builtin.lenOf, Builtin.firstCells, h, storeCells]
theorem append_zero (t ty e : TypeId) (i : TypeInfo) (ht : P.underlying t = some (.slice e)) (hi : P.info? e = some i) (ad : Addr) (c : Nat) :
    (Builtin.append_ #[t, t] ty #[.slice none 0 0, .slice (some ad) 0 c]).run P w = .ok (.slice none 0 0) w := by
  simp [Builtin.append_, run_underlying ht, sizeOf, typeInfo, hi, Builtin.lenOf, Builtin.firstCells, loadCells, loadCellsFrom]
theorem chooseL {N : Nat} {p : Nat → Value → Prop} (h : ∀ q, q < N → ∃ u, p q u) : ∃ l : List Value, l.length = N ∧ ∀ q u, l[q]? = some u → p q u := by
  induction N with
  | zero => exact ⟨[], rfl, by simp⟩
  | succ N ih =>
    obtain ⟨l, h1, h2⟩ := ih fun q hq => h q (by omega)
    obtain ⟨u, hu⟩ := h N (by omega)
    refine ⟨l ++ [u], by simp [h1], fun q v hq => ?_⟩
    by_cases hqn : q < N
    · rw [List.getElem?_append_left (by omega)] at hq; exact h2 q v hq
    · rw [List.getElem?_append_right (by omega)] at hq
      have := (List.getElem?_eq_some_iff.1 hq).1
      simp at this
      have : q = N := by omega
      subst this
      simp [h1] at hq; subst hq; exact hu
/-- the cells behind a slice, as one row -/
theorem rows_list {S : Nat → Nat → Prop} {b off n sz : Nat} {f : Nat → Nat → D} (hs : 0 < sz) (h : ∀ i, i < n → ∀ j, j < sz → S b (off + i * sz + j) ∧ ∃ u, w.cell? ⟨b, off + i * sz + j, none⟩ = some u ∧ RepD w S (f i j) u) :
    ∃ l : List Value, l.length = n * sz ∧ ∀ q u, l[q]? = some u → w.cell? ⟨b, off + q, none⟩ = some u ∧ RepD w S (f (q / sz) (q % sz)) u := by
  refine chooseL (p := fun q u => w.cell? ⟨b, off + q, none⟩ = some u ∧ RepD w S (f (q / sz) (q % sz)) u) fun q hq => ?_
  have h1 : q / sz < n := Nat.div_lt_of_lt_mul (by rw [Nat.mul_comm]; exact hq)
  obtain ⟨_, u, h2, h3⟩ := h (q / sz) h1 (q % sz) (Nat.mod_lt _ hs)
  have : off + q / sz * sz + q % sz = off + q := by have := Nat.div_add_mod q sz; rw [Nat.mul_comm] at this; omega
  rw [this] at h2
  exact ⟨u, h2, h3⟩
/-- the chain k comes to lie in a new block, or goes on in its own one -/
theorem putChain (h : RepG E g w a st) {k c' u' p' s' : Nat} {vs : Array Value} {T : TypeId} {w' : World}
    (hk : st.mem k = none ∨ ∃ u, st.mem k = some (.chain u) ∧ g.used k < u')
    (_hu : 0 < u') (hb : w'.heap[c']? = some (.cells vs T (0, 0))) (hsz : vs.size = p' * s') (hup : u' ≤ p')
    (hc : (c' = w.heap.size ∧ w'.heap.size = w.heap.size + 1) ∨ (w'.heap.size = w.heap.size ∧ c' = g.cb k ∧ (∃ u, st.mem k = some (.chain u) ∧ 0 < u) ∧ (∀ i, g.S c' i → w'.cell? ⟨c', i, none⟩ = w.cell? ⟨c', i, none⟩) ∧ g.sz k = s'))
    (ho : ∀ b, b ≠ c' → b < w.heap.size → w'.heap[b]? = w.heap[b]?) (h1 : w'.os = w.os) (h2 : w'.tape = w.tape) (h3 : w'.output = w.output) :
    ∃ g', Step g w g' w' ∧ RepG E g' w' a (st.set k (.chain u')) ∧ g'.PC k ∧ g'.cb k = c' ∧ g'.used k = u' ∧ g'.cap k = p' ∧ g'.sz k = s' ∧ (∀ b i, g.S b i → g'.S b i) ∧ ∀ i, i < u' * s' → g'.S c' i := by
  have nb : ¬ g.PB k := fun hp => by
    obtain ⟨cs, h4⟩ := h.prb k hp
    rcases hk with h5 | ⟨u, h5, _⟩ <;> rw [h5] at h4 <;> cases h4
  have om : ∀ l, l ≠ k → (st.set k (.chain u')).mem l = st.mem l := fun l hl => upd_other _ _ hl
  have hsle : w.heap.size ≤ w'.heap.size := by rcases hc with ⟨_, h4⟩ | ⟨h4, _⟩ <;> omega
  -- who else lies in c'?
  have own1 : ∀ l b, l ≠ k → Own g st l b → b ≠ c' := by
    intro l b hl hob he
    rcases hc with ⟨h4, _⟩ | ⟨_, h4, ⟨u, h5, h6⟩, _⟩
    · have := hob.lt h; omega
    · exact hl (h.inj l k b hob (.inr ⟨u, h5, h6, he.trans h4⟩))
  have cge : E.w0.heap.size ≤ c' := by
    rcases hc with ⟨h5, _⟩ | ⟨_, h5, ⟨u, h6, h7⟩, _⟩
    · rw [h5]; exact h.size
    · rw [h5]; exact h.ownc k u h6 h7
  have hcS : ∀ b i, g.S b i → w'.cell? ⟨b, i, none⟩ = w.cell? ⟨b, i, none⟩ := by
    intro b i hs
    by_cases hbc : b = c'
    · subst hbc
      rcases hc with ⟨h4, _⟩ | ⟨_, _, _, h4, _⟩
      · have := h.bnd _ _ hs; omega
      · exact h4 i hs
    · exact World.cell?_of_block (w := w) (a := ⟨b, i, none⟩) (ho b hbc (h.bnd b i hs))
  let g' : G := { g with PC := fun l => l = k ∨ g.PC l, cb := upd g.cb k c', used := upd g.used k u', cap := upd g.cap k p', sz := upd g.sz k s', S := fun b i => g.S b i ∨ (b = c' ∧ i < u' * s') }
  have st' : Step g w g' w' := by
    refine ⟨fun b i hs => ⟨.inl hs, hcS b i hs⟩, fun l hl => ⟨hl, rfl⟩, fun l hl => ⟨.inr hl, ?_⟩⟩
    by_cases hlk : l = k
    · subst hlk
      right
      show g.used l < upd g.used l u' l
      rw [upd_same]
      rcases hk with h5 | ⟨u, _, h5⟩
      · obtain ⟨u, h6⟩ := h.prc l hl; rw [h5] at h6; cases h6
      · exact h5
    · exact .inl ⟨upd_other _ _ hlk, upd_other _ _ hlk, upd_other _ _ hlk, upd_other _ _ hlk⟩
  have own' : ∀ l b, Own g' (st.set k (.chain u')) l b → (l = k ∧ b = c') ∨ (l ≠ k ∧ Own g st l b) := by
    intro l b hl
    by_cases hlk : l = k
    · subst hlk
      rcases hl with ⟨cs, h4, _⟩ | ⟨u, _, _, h5⟩
      · rw [set_same] at h4; cases h4
      · exact .inl ⟨rfl, h5.trans (upd_same _ _ _)⟩
    · refine .inr ⟨hlk, ?_⟩
      rcases hl with ⟨cs, h4, h5⟩ | ⟨u, h4, h5, h6⟩
      · rw [om l hlk] at h4; exact .inl ⟨cs, h4, h5⟩
      · rw [om l hlk] at h4; exact .inr ⟨u, h4, h5, h6.trans (upd_other _ _ hlk)⟩
  refine ⟨g', st', ?_, .inl rfl, upd_same _ _ _, upd_same _ _ _, upd_same _ _ _, upd_same _ _ _, fun b i hs => .inl hs, fun i hi => .inr ⟨rfl, hi⟩⟩
  refine ⟨h.df, ?_, ?_, h.nt, fun t => (h.sl t).step st', ?_, ?_, ?_, ?_, ?_, h1.trans h.os, h2.trans h.tape, h3.trans h.out, ?_, ?_, fun b i hs => .inl (h.sub b i hs), ?_, ?_, fun i cs hi => by
      have hik : pk i ≠ k := fun e => by rw [e, set_same] at hi; cases hi
      rw [om _ hik] at hi; exact h.par i cs hi, h.pbl⟩
  · intro l hl
    obtain ⟨cs, h4⟩ := h.prb l hl
    have hlk : l ≠ k := fun e => nb (e ▸ hl)
    exact ⟨cs, (om l hlk).trans h4⟩
  · intro l hl
    by_cases hlk : l = k
    · subst hlk; exact ⟨u', set_same _ _ _⟩
    · rcases hl with h4 | h4
      · exact absurd h4 hlk
      · obtain ⟨u, h5⟩ := h.prc l h4; exact ⟨u, (om l hlk).trans h5⟩
  · intro l cs hl
    have hlk : l ≠ k := fun e => by subst e; rw [set_same] at hl; cases hl
    rw [om l hlk] at hl
    obtain ⟨v2, T2, hb2, hr2, hS2⟩ := h.box l cs hl
    have hne := own1 l _ hlk (.inl ⟨cs, hl, rfl⟩)
    refine ⟨v2, T2, (ho _ hne (heap_lt hb2)).trans hb2, hr2.mono fun _ _ hx => hx.step st', fun i hi => ?_⟩
    rcases hi with hi | ⟨hi, _⟩
    · exact hS2 i hi
    · exact hne hi
  · intro l u hl
    by_cases hlk : l = k
    · subst hlk
      rw [set_same] at hl; cases hl
      refine ⟨(upd_same _ _ _).symm, fun _ => ⟨vs, T, ?_, ?_, ?_, fun i hi => ?_⟩⟩
      · show w'.heap[upd g.cb l c' l]? = _; rw [upd_same]; exact hb
      · show vs.size = upd g.cap l p' l * upd g.sz l s' l; rw [upd_same, upd_same]; exact hsz
      · show u' ≤ upd g.cap l p' l; rw [upd_same]; exact hup
      · show i < u' * upd g.sz l s' l
        rw [upd_same]
        rcases hi with hi | ⟨_, hi⟩
        · change g.S (upd g.cb l c' l) i at hi
          rw [upd_same] at hi
          rcases hc with ⟨h4, _⟩ | ⟨_, h4, ⟨u, h5, h6⟩, _, h7⟩
          · have := h.bnd _ _ hi; omega
          · rw [h4] at hi
            obtain ⟨h8, h9⟩ := h.chain l u h5
            obtain ⟨_, _, _, _, _, h10⟩ := h9 h6
            have := h10 i hi
            rw [h7] at this
            rcases hk with h11 | ⟨u2, h11, h12⟩
            · rw [h11] at h5; cases h5
            · exact Nat.lt_of_lt_of_le this (Nat.mul_le_mul_right _ (by omega))
        · exact hi
    · rw [om l hlk] at hl
      obtain ⟨h4, h5⟩ := h.chain l u hl
      refine ⟨h4.trans (upd_other _ _ hlk).symm, fun hu' => ?_⟩
      obtain ⟨v2, T2, hb2, h6, h7, h8⟩ := h5 hu'
      have hne := own1 l _ hlk (.inr ⟨u, hl, hu', rfl⟩)
      refine ⟨v2, T2, ?_, ?_, ?_, fun i hi => ?_⟩
      · show w'.heap[upd g.cb k c' l]? = _; rw [upd_other _ _ hlk]; exact (ho _ hne (heap_lt hb2)).trans hb2
      · show v2.size = upd g.cap k p' l * upd g.sz k s' l; rw [upd_other _ _ hlk, upd_other _ _ hlk]; exact h6
      · show u ≤ upd g.cap k p' l; rw [upd_other _ _ hlk]; exact h7
      · show i < u * upd g.sz k s' l
        rw [upd_other _ _ hlk]
        change g.S (upd g.cb k c' l) i ∨ upd g.cb k c' l = c' ∧ _ at hi
        rw [upd_other _ _ hlk] at hi
        rcases hi with hi | ⟨hi, _⟩
        · exact h8 i hi
        · exact absurd hi hne
  · intro l m b hl hm
    rcases own' l b hl with ⟨rfl, h4⟩ | ⟨hlk, h4⟩ <;> rcases own' m b hm with ⟨rfl, h5⟩ | ⟨hmk, h5⟩
    · rfl
    · exact absurd h4 (own1 m b hmk h5)
    · exact absurd h5 (own1 l b hlk h4)
    · exact h.inj l m b h4 h5
  · intro l cs hl
    have hlk : l ≠ k := fun e => by subst e; rw [set_same] at hl; cases hl
    rw [om l hlk] at hl; exact h.ownb l cs hl
  · intro l u hl hu'
    by_cases hlk : l = k
    · subst hlk
      show _ ≤ upd g.cb l c' l
      rw [upd_same]; exact cge
    · rw [om l hlk] at hl; show _ ≤ upd g.cb k c' l; rw [upd_other _ _ hlk]; exact h.ownc l u hl hu'
  · exact Nat.le_trans h.size hsle
  · intro b hb' hp
    have hne : b ≠ c' := fun e => by omega
    exact (ho b hne (Nat.lt_of_lt_of_le hb' h.size)).trans (h.old b hb' hp)
  · intro b i hs
    rcases hs with hs | ⟨rfl, _⟩
    · exact h.new b i hs
    · rcases hc with ⟨h5, _⟩ | ⟨_, h5, ⟨u, h6, h7⟩, _⟩
      · right; rw [h5]; exact h.size
      · right; rw [h5]; exact h.ownc k u h6 h7
  · intro b i hs
    rcases hs with hs | ⟨rfl, _⟩
    · exact Nat.lt_of_lt_of_le (h.bnd b i hs) hsle
    · exact heap_lt hb
def Rs.mem (r : Rs) (st : St) : St := match r.wr with | none => st | some (k, m) => st.set k m
/-- what is to be shown of an operation that may turn memory -/
def MemOk (P : Program) (E : Env) (g : G) (w : World) (a : Act) (st : St) (ρv : Operand → Value) (o : Oper) (r : Rs) : Prop :=
  ∃ v w' g', ((execOp ρv o).run P w = .ok (.value v) w' ∨ ((execOp ρv o).run P w = .ok .skip w' ∧ v = undef)) ∧ Step g w g' w' ∧ RepA g' w' r.val v ∧ RepG E g' w' a (r.mem st)
theorem MemOk.of_pure {r : Rs} (h : RepG E g w a st) (hp : r.wr = none ∧ Pure P g w ρv o r.val) : MemOk P E g w a st ρv o r := by
  obtain ⟨h1, v, h2, h3⟩ := hp
  exact ⟨v, w, g, .inl h2, Step.refl g w, h3, by rw [Rs.mem, h1]; exact h⟩
/-- an empty chain -/
theorem zeroChain (h : RepG E g w a st) {d : Nat} (hd : st.mem d = none) : ∃ g', Step g w g' w ∧ RepG E g' w a (st.set d (.chain 0)) ∧ g'.PC d ∧ g'.used d = 0 := by
  have hnd : ¬ g.PB d := fun hp => by obtain ⟨cs, hk⟩ := h.prb d hp; rw [hd] at hk; cases hk
  have hnc : ¬ g.PC d := fun hp => by obtain ⟨cs, hk⟩ := h.prc d hp; rw [hd] at hk; cases hk
  have om : ∀ k, k ≠ d → (st.set d (.chain 0)).mem k = st.mem k := fun k hk => upd_other _ _ hk
  have st' : Step g w { g with PC := fun k => k = d ∨ g.PC k, used := upd g.used d 0 } w :=
    ⟨fun b i hs => ⟨hs, rfl⟩, fun k hk => ⟨hk, rfl⟩, fun k hk => ⟨.inr hk, .inl ⟨rfl, upd_other _ _ (fun e => hnc (e ▸ hk)), rfl, rfl⟩⟩⟩
  have own' : ∀ k b, Own { g with PC := fun k => k = d ∨ g.PC k, used := upd g.used d 0 } (st.set d (.chain 0)) k b → k ≠ d ∧ Own g st k b := by
    intro k b ho
    by_cases hk : k = d
    · subst hk
      rcases ho with ⟨cs', h1, _⟩ | ⟨u, hu, h2, _⟩
      · rw [set_same] at h1; cases h1
      · rw [set_same] at hu; cases hu; omega
    · refine ⟨hk, ?_⟩
      rcases ho with ⟨cs', h1, h2⟩ | ⟨u, h1, h2, h3⟩
      · rw [om k hk] at h1; exact .inl ⟨cs', h1, h2⟩
      · rw [om k hk] at h1; exact .inr ⟨u, h1, h2, h3⟩
  refine ⟨_, st', ?_, .inl rfl, upd_same _ _ _⟩
  refine ⟨h.df, ?_, ?_, h.nt, fun t => (h.sl t).step st', ?_, ?_, ?_, ?_, ?_, h.os, h.tape, h.out, h.size, h.old, h.sub, h.new, h.bnd, fun i cs hi => by
      have hik : pk i ≠ d := fun e => by rw [e, set_same] at hi; cases hi
      rw [om _ hik] at hi; exact h.par i cs hi, h.pbl⟩
  · intro k hk
    obtain ⟨cs, h1⟩ := h.prb k hk
    exact ⟨cs, (om k (fun e => hnd (e ▸ hk))).trans h1⟩
  · intro k hk
    by_cases hkd : k = d
    · subst hkd; exact ⟨0, set_same _ _ _⟩
    · rcases hk with hk | hk
      · exact absurd hk hkd
      · obtain ⟨u, h1⟩ := h.prc k hk; exact ⟨u, (om k hkd).trans h1⟩
  · intro k cs hk
    have hkd : k ≠ d := fun e => by subst e; rw [set_same] at hk; cases hk
    rw [om k hkd] at hk
    obtain ⟨vs, T, h1, h2, h3⟩ := h.box k cs hk
    exact ⟨vs, T, h1, h2.mono fun _ _ hx => hx.step st', h3⟩
  · intro k u hk
    by_cases hkd : k = d
    · subst hkd; rw [set_same] at hk; cases hk
      exact ⟨(upd_same _ _ _).symm, fun hu => by omega⟩
    · rw [om k hkd] at hk
      obtain ⟨h1, h2⟩ := h.chain k u hk
      exact ⟨h1.trans (upd_other _ _ hkd).symm, h2⟩
  · exact fun k l b hk hl => h.inj k l b (own' k b hk).2 (own' l b hl).2
  · intro k cs hk
    have hkd : k ≠ d := fun e => by subst e; rw [set_same] at hk; cases hk
    rw [om k hkd] at hk; exact h.ownb k cs hk
  · intro k u hk hu
    have hkd : k ≠ d := fun e => by subst e; rw [set_same] at hk; cases hk; omega
    rw [om k hkd] at hk; exact h.ownc k u hk hu
theorem own_of {n sz t : Nat} {f : Nat → Nat → D} {v : Value} (hp : g.PC t) (hu : n = g.used t) (hd : RepD w g.S (.sl n sz f) v) (h0 : n = 0 → v = .slice none 0 0) (h1 : 0 < n → sz = g.sz t ∧ v = .slice (some ⟨g.cb t, 0, none⟩) n (g.cap t)) : RepA g w (.own n sz f t) v :=
  ⟨hp, Nat.le_of_eq hu, hd, h0, fun hn _ => h1 hn⟩
theorem same_set (h : RepG E g w a st) {k : Nat} {m : M} (hk : st.mem k = some m) : st.set k m = st := by
  have : (st.set k m).mem = st.mem := by
    funext l
    by_cases hl : l = k
    · subst hl; rw [set_same, hk]
    · exact upd_other _ _ hl
  cases st; simp only [St.set] at this ⊢; rw [this]
theorem apRow_lt {n i j : Nat} {f h : Nat → Nat → D} (hi : i < n) : apRow n f h i j = f i j := by
  unfold apRow; rw [show Nat.blt i n = true from Nat.ble_eq_true_of_le hi]
theorem apRow_ge {n i j : Nat} {f h : Nat → Nat → D} (hi : n ≤ i) : apRow n f h i j = h (i - n) j := by
  unfold apRow
  have : Nat.blt i n = false := by
    cases hb : Nat.blt i n with
    | false => rfl
    | true => have := Nat.le_of_ble_eq_true hb; omega
  rw [this]
theorem lenZ (z : Array Value) (n : Nat) : (Builtin.zeroCells z n).size = n * z.size := by simp [Builtin.zeroCells]
theorem append_core {t ty e : TypeId} {i : TypeInfo} {z : Value} (ht : P.underlying t = some (.slice e)) (hi : P.info? e = some i) (hz : i.zero = some z) {k n m sz : Nat} {f h0 : Nat → Nat → D} {vs vx : Value} (hpos : 0 < sz) (his : i.size = sz) (hzs : z.cells.size = sz)
    (h : RepG E g w a st)
    (hcase : (n = 0 ∧ vs = .slice none 0 0 ∧ (st.mem k = none ∨ (st.mem k = some (.chain 0) ∧ g.PC k))) ∨ (0 < n ∧ st.mem k = some (.chain n) ∧ g.PC k ∧ RepD w g.S (.sl n sz f) vs ∧ g.sz k = sz ∧ vs = .slice (some ⟨g.cb k, 0, none⟩) n (g.cap k)))
    (hx : RepD w g.S (.sl m sz h0) vx) (hby : (n + m) * i.bytes ≤ 140737488355328) (h63 : n + m ≤ 9223372036854775807) :
    ∃ v w' g', (Builtin.append_ #[t, t] ty #[vs, vx]).run P w = .ok v w' ∧ Step g w g' w' ∧ RepA g' w' (.own (n + m) sz (apRow n f h0) k) v ∧ RepG E g' w' a (st.set k (.chain (n + m))) := by
  subst his
  rcases hcase with ⟨rfl, rfl, hk⟩ | ⟨hn, hk, hpc, hvs, hsk, rfl⟩
  · -- nothing there
    have zero : m = 0 → (Builtin.append_ #[t, t] ty #[.slice none 0 0, vx]).run P w = .ok (.slice none 0 0) w := by
      intro hm
      subst hm
      rcases hx with ⟨_, rfl⟩ | ⟨b, off, cap, rfl, _, _⟩
      · exact append_none t ty e i ht hi none 0 0 (Nat.le_refl _)
      · exact append_zero t ty e i ht hi _ _
    by_cases hm : m = 0
    · have hrun := zero hm
      subst hm
      rcases hk with hk | ⟨hk, hp⟩
      · obtain ⟨g', s1, s2, s3, s4⟩ := zeroChain h hk
        exact ⟨_, w, g', hrun, s1, own_of s3 s4.symm (.inl ⟨rfl, rfl⟩) (fun _ => rfl) (fun h => by omega), s2⟩
      · refine ⟨_, w, g, hrun, Step.refl g w, own_of hp (h.chain k 0 hk).1 (.inl ⟨rfl, rfl⟩) (fun _ => rfl) (fun h => by omega), ?_⟩
        rw [same_set h hk]; exact h
    · rcases hx with ⟨h1, _⟩ | ⟨b, off, c, rfl, _, hrow⟩
      · exact absurd h1 hm
      obtain ⟨news, hl, hnews⟩ := rows_list hpos hrow
      have hr := run_append_nil (P := P) w t ty e i z ht hi hz ⟨b, off, none⟩ m c news hl (fun j u hj => by rw [add_spot]; exact (hnews j u hj).1) (by omega) (by omega) (by rw [Nat.zero_add] at hby; omega)
      have hcap : m ≤ grownCap w m 0 e := grownCap_ge w m 0 e
      obtain ⟨g', s1, s2, s3, s4, s5, s6, s7, s8, s9⟩ := putChain (g := g) (w := w) (a := a) (st := st) (E := E) h (k := k) (c' := w.heap.size) (u' := m) (p' := grownCap w m 0 e) (s' := i.size)
        (vs := news.toArray ++ Builtin.zeroCells z.cells (grownCap w m 0 e - m)) (T := e) (w' := w.drew.alloc (.cells (news.toArray ++ Builtin.zeroCells z.cells (grownCap w m 0 e - m)) e))
        (by rcases hk with hk | ⟨hk, _⟩
            · exact .inl hk
            · exact .inr ⟨0, hk, by rw [← (h.chain k 0 hk).1]; omega⟩) (by omega) (han w.drew _) (by
          simp only [Array.size_append, List.size_toArray, lenZ, hzs, hl, ← Nat.add_mul]; congr 1; omega) hcap (.inl ⟨rfl, by simp⟩) (fun b _ hb => hao w.drew _ hb) rfl rfl rfl
      refine ⟨_, _, g', hr, s1, ?_, by rw [Nat.zero_add]; exact s2⟩
      have hd : RepD (w.drew.alloc (.cells (news.toArray ++ Builtin.zeroCells z.cells (grownCap w m 0 e - m)) e)) g'.S (.sl (0 + m) i.size (apRow 0 f h0)) (.slice (some ⟨w.heap.size, 0, none⟩) m (grownCap w m 0 e)) := by
        rw [Nat.zero_add]
        refine .inr ⟨w.heap.size, 0, _, rfl, hcap, fun q hq j hj => ?_⟩
        have hlt : q * i.size + j < m * i.size := by
          have := Nat.mul_le_mul_right i.size (show q + 1 ≤ m by omega); rw [Nat.add_mul] at this; omega
        rw [Nat.zero_add]
        refine ⟨s9 _ hlt, ?_⟩
        have hlt' : q * i.size + j < news.length := by omega
        obtain ⟨h1, h2⟩ := hnews (q * i.size + j) _ (List.getElem?_eq_getElem hlt')
        rw [apRow_ge (Nat.zero_le _), Nat.sub_zero]
        refine ⟨_, ?_, RepD.mono s1.S (show RepD w g.S (h0 q j) news[q * i.size + j] from ?_)⟩
        · rw [cell_of_row _ w.heap.size _ _ e (0, 0) (han w.drew _)]
          simp [Array.getElem?_append, hlt']
        · have e1 : (q * i.size + j) / i.size = q := by rw [Nat.mul_comm, Nat.mul_add_div hpos, Nat.div_eq_of_lt hj, Nat.add_zero]
          have e2 : (q * i.size + j) % i.size = j := by rw [Nat.mul_comm, Nat.mul_add_mod, Nat.mod_eq_of_lt hj]
          rw [e1, e2] at h2; exact h2
      exact own_of s3 (by rw [s5, Nat.zero_add]) hd (fun h => by omega) (fun _ => ⟨s7.symm, by rw [s4, s6, Nat.zero_add]⟩)
  · -- a chain that goes on
    have hu := (h.chain k n hk).1
    obtain ⟨cur, T, hcb, hcs, hnc, hS⟩ := (h.chain k n hk).2 hn
    rw [hsk] at hcs hS
    have hold : ∀ q, q < n → ∀ j, j < i.size → g.S (g.cb k) (q * i.size + j) ∧ ∃ u, w.cell? ⟨g.cb k, q * i.size + j, none⟩ = some u ∧ RepD w g.S (f q j) u := by
      rcases hvs with ⟨h1, _⟩ | ⟨b, off, cap, h1, _, h2⟩
      · omega
      · simp only [Value.slice.injEq, Option.some.injEq, Addr.mk.injEq, and_true, true_and] at h1
        obtain ⟨⟨rfl, rfl⟩, rfl⟩ := h1
        intro q hq j hj
        have := h2 q hq j hj
        rw [Nat.zero_add] at this; exact this
    rcases hx with ⟨hm, rfl⟩ | ⟨b, off, c, rfl, _, hrow⟩
    · subst hm
      refine ⟨_, w, g, append_none t ty e i ht hi _ n (g.cap k) hnc, Step.refl g w, ?_, by rw [Nat.add_zero, same_set h hk]; exact h⟩
      refine own_of hpc (by rw [← hu]; rfl) (.inr ⟨g.cb k, 0, _, rfl, hnc, fun q hq j hj => ?_⟩) (fun h => by omega) (fun _ => ⟨hsk.symm, rfl⟩)
      rw [apRow_lt (by omega), Nat.zero_add]; exact hold q (by omega) j hj
    obtain ⟨news, hl, hnews⟩ := rows_list hpos hrow
    have hnews' : ∀ j u, news[j]? = some u → w.cell? ((⟨b, off, none⟩ : Addr).add j) = some u := fun j u hj => by rw [add_spot]; exact (hnews j u hj).1
    have hone : ∀ u ∈ news, u.oneCell' = true := by
      intro u hu'
      obtain ⟨j, hj, rfl⟩ := List.getElem_of_mem hu'
      exact (hnews j _ (List.getElem?_eq_getElem hj)).2.one
    have newRep : ∀ q, q < m → ∀ j, j < i.size → ∃ u, news[q * i.size + j]? = some u ∧ RepD w g.S (h0 q j) u := by
      intro q hq j hj
      have hlt : q * i.size + j < news.length := by
        have := Nat.mul_le_mul_right i.size (show q + 1 ≤ m by omega); rw [Nat.add_mul] at this; omega
      refine ⟨_, List.getElem?_eq_getElem hlt, ?_⟩
      have h2 := (hnews _ _ (List.getElem?_eq_getElem hlt)).2
      have e1 : (q * i.size + j) / i.size = q := by rw [Nat.mul_comm, Nat.mul_add_div hpos, Nat.div_eq_of_lt hj, Nat.add_zero]
      have e2 : (q * i.size + j) % i.size = j := by rw [Nat.mul_comm, Nat.mul_add_mod, Nat.mod_eq_of_lt hj]
      rw [e1, e2] at h2; exact h2
    obtain ⟨olds, hol, holds⟩ := rows_list (w := w) (S := g.S) (b := g.cb k) (off := 0) (n := n) (f := f) hpos (fun q hq j hj => by rw [Nat.zero_add]; exact hold q hq j hj)
    have oldRep : ∀ q, q < n → ∀ j, j < i.size → ∃ u, olds[q * i.size + j]? = some u ∧ w.cell? ⟨g.cb k, q * i.size + j, none⟩ = some u ∧ RepD w g.S (f q j) u := by
      intro q hq j hj
      have hlt : q * i.size + j < olds.length := by
        have := Nat.mul_le_mul_right i.size (show q + 1 ≤ n by omega); rw [Nat.add_mul] at this; omega
      have h2 := holds _ _ (List.getElem?_eq_getElem hlt)
      have e1 : (q * i.size + j) / i.size = q := by rw [Nat.mul_comm, Nat.mul_add_div hpos, Nat.div_eq_of_lt hj, Nat.add_zero]
      have e2 : (q * i.size + j) % i.size = j := by rw [Nat.mul_comm, Nat.mul_add_mod, Nat.mod_eq_of_lt hj]
      rw [e1, e2, Nat.zero_add] at h2
      exact ⟨_, List.getElem?_eq_getElem hlt, h2.1, h2.2⟩
    by_cases hm : m = 0
    · -- nothing is appended
      subst hm
      have hn0 : news = [] := List.eq_nil_of_length_eq_zero (by simpa using hl)
      subst hn0
      have hr := append_room (P := P) (w := w) t ty e i ht hi (g.cb k) n (g.cap k) T cur hcb ⟨b, off, none⟩ 0 c [] hl hnews' hone (by omega) (by rw [hcs]; simp; exact Nat.mul_le_mul_right _ hnc)
      have hw : w.setRow (g.cb k) (cur.toList.take (n * i.size) ++ [] ++ cur.toList.drop (n * i.size + ([] : List Value).length)).toArray = w := by
        simp only [List.append_nil, List.length_nil, Nat.add_zero, List.take_append_drop]
        exact setRow_self w _ cur T (0, 0) hcb
      rw [hw] at hr
      refine ⟨_, w, g, hr, Step.refl g w, ?_, by rw [Nat.add_zero, same_set h hk]; exact h⟩
      refine own_of hpc (by rw [← hu]; rfl) (.inr ⟨g.cb k, 0, _, rfl, hnc, fun q hq j hj => ?_⟩) (fun h => by omega) (fun _ => ⟨hsk.symm, rfl⟩)
      rw [apRow_lt (by omega), Nat.zero_add]; exact hold q (by omega) j hj
    by_cases hroom : n + m ≤ g.cap k
    · -- in place
      have hfit : n * i.size + news.length ≤ cur.size := by rw [hl, hcs, ← Nat.add_mul]; exact Nat.mul_le_mul_right _ hroom
      have hr := append_room (P := P) (w := w) t ty e i ht hi (g.cb k) n (g.cap k) T cur hcb ⟨b, off, none⟩ m c news hl hnews' hone hroom hfit
      generalize hvs' : (cur.toList.take (n * i.size) ++ news ++ cur.toList.drop (n * i.size + news.length)).toArray = vs' at hr
      have hsz' : vs'.size = g.cap k * i.size := by
        rw [← hvs', ← hcs]
        simp only [List.size_toArray, List.length_append, List.length_take, List.length_drop, Array.length_toList]
        omega
      have hrow' := setRow_heap w (g.cb k) cur vs' T (0, 0) hcb
      have hget1 : ∀ q, q < n * i.size → vs'[q]? = cur[q]? := by
        intro q hq
        rw [← hvs']
        simp only [List.getElem?_toArray]
        rw [List.append_assoc, List.getElem?_append_left (by simp; omega), List.getElem?_take, if_pos hq]; simp
      have hget2 : ∀ q, q < news.length → vs'[n * i.size + q]? = news[q]? := by
        intro q hq
        rw [← hvs']
        simp only [List.getElem?_toArray]
        have hlt : (cur.toList.take (n * i.size)).length = n * i.size := by simp; omega
        rw [List.append_assoc, List.getElem?_append_right (by omega), hlt, Nat.add_sub_cancel_left, List.getElem?_append_left hq]
      obtain ⟨g', s1, s2, s3, s4, s5, s6, s7, s8, s9⟩ := putChain (g := g) (w := w) (a := a) (st := st) (E := E) h (k := k) (c' := g.cb k) (u' := n + m) (p' := g.cap k) (s' := i.size) (vs := vs') (T := T) (w' := w.setRow (g.cb k) vs')
        (.inr ⟨n, hk, by omega⟩) (by omega) hrow' hsz' hroom
        (.inr ⟨by simp, rfl, ⟨n, hk, hn⟩, fun q hq => by rw [cell_of_row _ _ _ vs' T (0, 0) hrow', cell_of_row _ _ _ cur T (0, 0) hcb]; exact hget1 q (hS q hq), hsk⟩)
        (fun b hb _ => setRow_other w _ _ _ hb) rfl rfl rfl
      refine ⟨_, _, g', hr, s1, ?_, s2⟩
      refine own_of s3 s5.symm (.inr ⟨g.cb k, 0, _, rfl, hroom, fun q hq j hj => ?_⟩) (fun h => by omega) (fun _ => ⟨s7.symm, by rw [s4, s6]⟩)
      have hlt : q * i.size + j < (n + m) * i.size := by
        have := Nat.mul_le_mul_right i.size (show q + 1 ≤ n + m by omega); rw [Nat.add_mul] at this; omega
      rw [Nat.zero_add]
      refine ⟨s9 _ hlt, ?_⟩
      by_cases hqn : q < n
      · obtain ⟨h1, u, h2, h3⟩ := hold q hqn j hj
        rw [apRow_lt hqn]
        exact ⟨u, (s1.S _ _ h1).2.trans h2, h3.mono s1.S⟩
      · obtain ⟨u, h1, h2⟩ := newRep (q - n) (by omega) j hj
        rw [apRow_ge (by omega)]
        refine ⟨u, ?_, h2.mono s1.S⟩
        rw [cell_of_row _ _ _ vs' T (0, 0) hrow']
        have hq2 : q * i.size + j = n * i.size + ((q - n) * i.size + j) := by
          rw [← Nat.add_assoc, ← Nat.add_mul]; congr 2; omega
        rw [hq2, hget2 _ (List.getElem?_eq_some_iff.1 h1).1, h1]
    · -- it grows
      have hr := run_append_grow (P := P) w t ty e i z ht hi hz ⟨g.cb k, 0, none⟩ n (g.cap k) olds hol (fun j v hj => by rw [add_spot]; exact (holds j v hj).1) ⟨b, off, none⟩ m c news hl hnews' (by omega) (by omega) (growslice_fits (by omega) hby)
      have hcap : n + m ≤ grownCap w (n + m) (g.cap k) e := grownCap_ge w (n + m) (g.cap k) e
      obtain ⟨g', s1, s2, s3, s4, s5, s6, s7, s8, s9⟩ := putChain (g := g) (w := w) (a := a) (st := st) (E := E) h (k := k) (c' := w.heap.size) (u' := n + m) (p' := grownCap w (n + m) (g.cap k) e) (s' := i.size)
        (vs := olds.toArray ++ news.toArray ++ Builtin.zeroCells z.cells (grownCap w (n + m) (g.cap k) e - (n + m))) (T := e) (w' := w.drew.alloc (.cells (olds.toArray ++ news.toArray ++ Builtin.zeroCells z.cells (grownCap w (n + m) (g.cap k) e - (n + m))) e))
        (.inr ⟨n, hk, by omega⟩) (by omega) (han w.drew _) (by
          simp only [Array.size_append, List.size_toArray, lenZ, hzs, hl, hol, ← Nat.add_mul]; congr 1; omega) hcap (.inl ⟨rfl, by simp⟩) (fun b _ hb => hao w.drew _ hb) rfl rfl rfl
      refine ⟨_, _, g', hr, s1, ?_, s2⟩
      refine own_of s3 s5.symm (.inr ⟨w.heap.size, 0, _, rfl, hcap, fun q hq j hj => ?_⟩) (fun h => by omega) (fun _ => ⟨s7.symm, by rw [s4, s6]⟩)
      have hlt : q * i.size + j < (n + m) * i.size := by
        have := Nat.mul_le_mul_right i.size (show q + 1 ≤ n + m by omega); rw [Nat.add_mul] at this; omega
      rw [Nat.zero_add]
      refine ⟨s9 _ hlt, ?_⟩
      rw [cell_of_row _ w.heap.size _ _ e (0, 0) (han w.drew _)]
      by_cases hqn : q < n
      · obtain ⟨u, h1, _, h3⟩ := oldRep q hqn j hj
        rw [apRow_lt hqn]
        have h4 := (List.getElem?_eq_some_iff.1 h1).1
        refine ⟨u, ?_, h3.mono s1.S⟩
        rw [Array.append_assoc, Array.getElem?_append_left (by simpa using h4)]; simpa using h1
      · obtain ⟨u, h1, h2⟩ := newRep (q - n) (by omega) j hj
        rw [apRow_ge (by omega)]
        refine ⟨u, ?_, h2.mono s1.S⟩
        have h4 := (List.getElem?_eq_some_iff.1 h1).1
        have hq2 : q * i.size + j = olds.length + ((q - n) * i.size + j) := by
          rw [hol, ← Nat.add_assoc, ← Nat.add_mul]; congr 2; omega
        rw [Array.append_assoc, Array.getElem?_append_right (by simp; omega), hq2]
        simp only [List.size_toArray, Nat.add_sub_cancel_left]
        rw [Array.getElem?_append_left (by simpa using h4)]; simpa using h1
end Go.Ab
