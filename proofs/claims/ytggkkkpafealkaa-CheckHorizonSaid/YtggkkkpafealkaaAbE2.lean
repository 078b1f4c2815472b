/- Operations that only compute are sound: reading. -/
import Derived.Test.YtggkkkpafealkaaAbE1
namespace Go.Ab
open Go
variable {P : Program} {E : Env} {g : G} {w : World} {a : Act} {st : St} {ρ : Operand → A} {ρv : Operand → Value} {mem : Nat → Option M} {dst : Option Nat} {o : Oper}
theorem p_field {t : TypeId} {x : Operand} {f : Nat} {r : Rs} (hop : o.op = .field t x f) (hx : RepA g w (ρ x) (ρv x)) (h : aopV P mem ρ dst (.field t x f) = some r) : r.wr = none ∧ Pure P g w ρv o r.val := by
  simp only [aopV] at h
  split at h
  · rename_i fs h1
    split at h
    · rename_i fd h2
      split at h
      · rename_i cs e
        split at h
        · rename_i v hv
          cases h
          rw [e] at hx; obtain ⟨vs, e1, hr⟩ := hx
          obtain ⟨u, hu, hru⟩ := part_run (P := P) hv hr
          exact ⟨rfl, u, by rw [execOp, hop]; simp [Instr.field, run_und h1, h2, e1, asAgg, hu], hru⟩
        · cases h
      · cases h
    · cases h
  · cases h
theorem RepL.getIdx {α : Type} {R : α → Value → Prop} {l : List α} {vs : List Value} (h : RepL R l vs) {i : Nat} (hi : i < l.length) : ∃ v, vs[i]? = some v ∧ R l[i] v := h.get (by simp)
theorem cells_load {b off n : Nat} {vs : List Value} (hl : vs.length = n) (h : ∀ j v, vs[j]? = some v → w.cell? ⟨b, off + j, none⟩ = some v) : (loadCells ⟨b, off, none⟩ n).run P w = .ok vs.toArray w := by
  subst hl
  have := run_loadCells_list (P := P) (w := w) ⟨b, off, none⟩ vs (fun j v hj => by rw [add_spot]; exact h j v hj)
  simpa using this
theorem getElem?_range_map {α : Type} (c : Nat → α) (n j : Nat) (h : j < n) : ((List.range n).map c)[j]? = some (c j) := by simp [h]
theorem p_load {t : TypeId} {x : Operand} {r : Rs} (hop : o.op = .load t x) (hm : mem = st.mem) (hr : RepG E g w a st) (hx : RepA g w (ρ x) (ρv x)) (h : aopV P mem ρ dst (.load t x) = some r) : r.wr = none ∧ Pure P g w ρv o r.val := by
  subst hm
  simp only [aopV] at h
  split at h
  · rename_i k off d n e h1 h2
    rw [e] at hx
    obtain ⟨ev, _⟩ := hx
    split at h
    · rename_i cs hk
      obtain ⟨vs, T, hb, hrl, _⟩ := hr.box k cs hk
      split at h
      · rename_i hd
        split at h
        · rename_i ds hle hds
          cases h
          have hle' : off + n ≤ cs.length := Nat.le_of_ble_eq_true hle
          have hll := hrl.length
          have hc : (loadCells ⟨g.β k, off, none⟩ n).run P w = .ok ((vs.toList.drop off).take n).toArray w := by
            refine cells_load (by simp at hll ⊢; omega) fun j v hj => ?_
            rw [cell_of_row w _ _ vs T (0, 0) hb]
            rw [List.getElem?_take] at hj
            split at hj
            · simpa using hj
            · cases hj
          refine ⟨rfl, .agg ((vs.toList.drop off).take n).toArray, ?_, _, rfl, ?_⟩
          · rw [execOp, hop]; simp [Instr.loadAt, ev, Instr.sureAddr, loadVar, run_isAgg h1, hd, run_tsz h2, hc]
          · simpa using toDs_rep hds ((hrl.drop off).take n)
        · cases h
      · rename_i hd
        split at h
        · rename_i c hc
          cases h
          obtain ⟨v, hv, hrv⟩ := hrl.get hc
          have hcell : w.cell? ⟨g.β k, off, none⟩ = some v := by rw [cell_of_row w _ _ vs T (0, 0) hb]; simpa using hv
          refine ⟨rfl, v, ?_, hrv⟩
          rw [execOp, hop]; simp [Instr.loadAt, ev, Instr.sureAddr, loadVar, run_isAgg h1, hd, hcell]
        · cases h
    · cases h
  · rename_i m c d n e h1 h2
    rw [e] at hx
    obtain ⟨b, off, ev, hc⟩ := hx
    split at h
    · rename_i hd
      split at h
      · rename_i hle
        cases h
        have hle' : n ≤ m := Nat.le_of_ble_eq_true hle
        have key : ∀ k, k ≤ m → ∃ vs : List Value, vs.length = k ∧ (∀ j v, vs[j]? = some v → w.cell? ⟨b, off + j, none⟩ = some v) ∧ RepL (RepD w g.S) ((List.range k).map c) vs := by
          intro k
          induction k with
          | zero => exact fun _ => ⟨[], rfl, by simp, rfl⟩
          | succ k ih =>
            intro hk
            obtain ⟨vs, h1, h2, h3⟩ := ih (by omega)
            obtain ⟨_, u, hu, hd⟩ := hc k (by omega)
            refine ⟨vs ++ [u], by simp [h1], fun j v hj => ?_, ?_⟩
            · by_cases hjk : j < k
              · rw [List.getElem?_append_left (by omega)] at hj; exact h2 j v hj
              · rw [List.getElem?_append_right (by omega)] at hj
                have : j = k := by
                  have := (List.getElem?_eq_some_iff.1 hj).1
                  simp at this; omega
                subst this
                simp [h1] at hj; subst hj; exact hu
            · rw [List.range_succ, List.map_append]
              exact h3.append ⟨u, [], rfl, hd, rfl⟩
        obtain ⟨vs, h3, h4, h5⟩ := key n hle'
        refine ⟨rfl, .agg vs.toArray, ?_, _, rfl, by simpa [cellsUpTo] using h5⟩
        rw [execOp, hop]; simp [Instr.loadAt, ev, Instr.sureAddr, loadVar, run_isAgg h1, hd, run_tsz h2, cells_load h3 h4]
      · cases h
    · rename_i hd
      split at h
      · rename_i hlt
        cases h
        have hlt' : 0 < m := Nat.le_of_ble_eq_true hlt
        obtain ⟨_, u, hu, hd'⟩ := hc 0 hlt'
        refine ⟨rfl, u, ?_, hd'⟩
        rw [execOp, hop]; simp [Instr.loadAt, ev, Instr.sureAddr, loadVar, run_isAgg h1, hd]
        simp at hu; simp [hu]
      · cases h
  · cases h
theorem p_indexAddr {t : TypeId} {x i : Operand} {r : Rs} (hop : o.op = .indexAddr t x i) (hx : RepA g w (ρ x) (ρv x)) (hi : RepA g w (ρ i) (ρv i)) (h : aopV P mem ρ dst (.indexAddr t x i) = some r) (hc : ∀ c ∈ r.cond, c = true) : r.wr = none ∧ Pure P g w ρv o r.val := by
  simp only [aopV] at h
  split at h
  · rename_i e h1
    split at h
    · rename_i s n sz f kk q h2 h3 h4
      split at h
      · rename_i hs
        cases h
        have hs' : sz = s := Nat.eq_of_beq_eq_true hs
        subst hs'
        rw [h4] at hi
        have ei : ρv i = .int kk q := hi
        simp only [List.mem_cons, List.not_mem_nil, or_false, forall_eq_or_imp, forall_eq, decide_eq_true_eq] at hc
        obtain ⟨hc1, hc2⟩ := hc
        rcases rowsOf_rep h3 hx with ⟨h0, _⟩ | ⟨b, off, cap, ev, hn, hh⟩
        · omega
        · have hq : q.toNat < n := by omega
          refine ⟨rfl, .pointer (some ⟨b, off + q.toNat * sz, none⟩), ?_, b, _, rfl, fun j hj => hh _ hq j hj⟩
          rw [execOp, hop]; simp [Instr.indexAt, ev, ei, asIntOf, run_und h1, hc1, hc2, run_tsz h2, add_spot]
      · cases h
    · cases h
  · cases h
theorem p_index {t : TypeId} {x i : Operand} {r : Rs} (hop : o.op = .index t x i) (hx : RepA g w (ρ x) (ρv x)) (hi : RepA g w (ρ i) (ρv i)) (h : aopV P mem ρ dst (.index t x i) = some r) (hc : ∀ c ∈ r.cond, c = true) : r.wr = none ∧ Pure P g w ρv o r.val := by
  simp only [aopV] at h
  split at h
  · rename_i s kk q h1 h2 h3
    cases h
    rw [h2] at hx; rw [h3] at hi
    have ex : ρv x = .string s := hx
    have ei : ρv i = .int kk q := hi
    simp only [List.mem_cons, List.not_mem_nil, or_false, forall_eq_or_imp, forall_eq, decide_eq_true_eq] at hc
    obtain ⟨hc1, hc2⟩ := hc
    have hq : q.toNat < s.size := by omega
    refine ⟨rfl, _, ?_, rfl⟩
    rw [execOp, hop]; simp [Instr.index, ex, ei, asIntOf, run_und h1, hc1, hq]
    have hq' : q.toNat < s.data.size := hq
    simp [byteAt]; rw [Array.getElem?_eq_getElem hq']; rfl
  · cases h
theorem p_slice {t : TypeId} {x : Operand} {lo hi mx : Option Operand} {r : Rs} (hop : o.op = .slice t x lo hi mx) (hx : RepA g w (ρ x) (ρv x)) (hl : ∀ y, lo = some y → RepA g w (ρ y) (ρv y)) (hh : ∀ y, hi = some y → RepA g w (ρ y) (ρv y)) (h : aopV P mem ρ dst (.slice t x lo hi mx) = some r) (hc : ∀ c ∈ r.cond, c = true) : r.wr = none ∧ Pure P g w ρv o r.val := by
  have sb : ∀ (isS : Bool) (n cap l u : Nat) (cs : List Bool), n ≤ cap → sliceB (lo.map ρ) (hi.map ρ) n = some (cs, l, u) → (∀ c ∈ cs, c = true) → (Instr.sliceBounds isS n cap (lo.map ρv) (hi.map ρv) none).run P w = .ok (l, u, cap) w ∧ l ≤ u ∧ u ≤ n := by
    intro isS n cap l u cs hcap hs hcs
    cases lo with
    | none =>
      cases hi with
      | none => simp [sliceB] at hs; obtain ⟨rfl, rfl, rfl⟩ := hs; simp [Instr.sliceBounds]
      | some y =>
        have hy := hh y rfl
        simp only [Option.map_none, Option.map_some, sliceB] at hs
        split at hs <;> (try contradiction)
        rename_i k v e1 e2
        simp only [Option.some.injEq] at e2
        rw [e2] at hy
        have ey : ρv y = .int k v := hy
        simp only [Option.some.injEq, Prod.mk.injEq] at hs; obtain ⟨rfl, rfl, rfl⟩ := hs
        simp only [List.mem_cons, List.not_mem_nil, or_false, forall_eq_or_imp, forall_eq, decide_eq_true_eq] at hcs
        obtain ⟨h1, h2⟩ := hcs
        refine ⟨?_, by omega, by omega⟩
        have : v ≤ (cap : Int) := by omega
        simp [Instr.sliceBounds, ey, Instr.sliceBound, asIntOf, h1, this]
    | some y =>
      have hy := hl y rfl
      cases hi with
      | none =>
        simp only [Option.map_none, Option.map_some, sliceB] at hs
        split at hs <;> (try contradiction)
        rename_i k v e1 e2
        simp only [Option.some.injEq] at e1
        rw [e1] at hy
        have ey : ρv y = .int k v := hy
        simp only [Option.some.injEq, Prod.mk.injEq] at hs; obtain ⟨rfl, rfl, rfl⟩ := hs
        simp only [List.mem_cons, List.not_mem_nil, or_false, forall_eq_or_imp, forall_eq, decide_eq_true_eq] at hcs
        obtain ⟨h1, h2⟩ := hcs
        refine ⟨?_, by omega, by omega⟩
        simp [Instr.sliceBounds, ey, Instr.sliceBound, asIntOf, h1, h2]
      | some z =>
        have hz := hh z rfl
        simp only [Option.map_some, sliceB] at hs
        split at hs <;> (try contradiction)
        rename_i k v k' u e1 e2
        simp only [Option.some.injEq] at e1 e2
        rw [e1] at hy; rw [e2] at hz
        have ey : ρv y = .int k v := hy
        have ez : ρv z = .int k' u := hz
        simp only [Option.some.injEq, Prod.mk.injEq] at hs; obtain ⟨rfl, rfl, rfl⟩ := hs
        simp only [List.mem_cons, List.not_mem_nil, or_false, forall_eq_or_imp, forall_eq, decide_eq_true_eq] at hcs
        obtain ⟨h1, h2, h3⟩ := hcs
        refine ⟨?_, by omega, by omega⟩
        have h4 : (0 : Int) ≤ u := by omega
        have h5 : u ≤ (cap : Int) := by omega
        simp [Instr.sliceBounds, ey, ez, Instr.sliceBound, asIntOf, h1, h4, h5]
        omega
  simp only [aopV] at h
  split at h
  · rename_i s h1 h2
    split at h
    · rename_i cs l u hs
      cases h
      rw [h2] at hx
      have ex : ρv x = .string s := hx
      obtain ⟨h3, _, _⟩ := sb false s.size s.size l u cs (Nat.le_refl _) hs hc
      refine ⟨rfl, _, ?_, rfl⟩
      rw [execOp, hop]; simp [Instr.sliceAt, run_und h1, Instr.slice, ex, h3]
    · cases h
  · rename_i e h1
    split at h
    · rename_i n sz f s h3 h4
      split at h
      · rename_i cs l u hs' hs
        cases h
        have hs' : sz = s := Nat.eq_of_beq_eq_true hs'
        subst hs'
        rcases rowsOf_rep h3 hx with ⟨rfl, ev⟩ | ⟨b, off, cap, ev, hn, hrow⟩
        · obtain ⟨h5, h6, h7⟩ := sb true 0 0 l u cs (Nat.le_refl _) hs hc
          obtain rfl : u = 0 := by omega
          obtain rfl : l = 0 := by omega
          refine ⟨rfl, .slice none 0 0, ?_, .inl ⟨rfl, rfl⟩⟩
          rw [execOp, hop]; simp [Instr.sliceAt, run_und h1, Instr.slice, ev, h5, run_tsz h4]
        · obtain ⟨h5, h6, h7⟩ := sb true n cap l u cs hn hs hc
          by_cases hcl : cap = l
          · subst hcl
            refine ⟨rfl, .slice (some ⟨b, off, none⟩) (u - cap) (cap - cap), ?_, .inr ⟨b, off, cap - cap, rfl, by omega, fun i hi => by omega⟩⟩
            rw [execOp, hop]; simp [Instr.sliceAt, run_und h1, Instr.slice, ev, h5, run_tsz h4]
          · refine ⟨rfl, .slice (some ⟨b, off + l * sz, none⟩) (u - l) (cap - l), ?_, .inr ⟨b, _, cap - l, rfl, by omega, fun i hi j hj => ?_⟩⟩
            · rw [execOp, hop]; simp [Instr.sliceAt, run_und h1, Instr.slice, ev, h5, run_tsz h4, hcl, add_spot]
            · have := hrow (l + i) (by omega) j hj
              rw [Nat.add_mul, ← Nat.add_assoc] at this; exact this
      · cases h
    · cases h
  · cases h
theorem p_len {c : Call} {x : Operand} {t : TypeId} {r : Rs} (hop : o.op = .call c) (h0 : c.callee = .builtin .len) (h1 : c.args.toList = [x]) (h2 : c.argTypes.toList = [t]) (hx : RepA g w (ρ x) (ρv x)) (h : aopV P mem ρ dst (.call c) = some r) : r.wr = none ∧ Pure P g w ρv o r.val := by
  simp only [aopV, h0, h1, h2] at h
  have e1 : c.args = #[x] := by rw [← Array.toArray_toList (xs := c.args), h1]
  have e2 : c.argTypes = #[t] := by rw [← Array.toArray_toList (xs := c.argTypes), h2]
  have go : ∀ v : Value, (Builtin.len_ #[t] o.type #[ρv x]).run P w = .ok v w → (execOp ρv o).run P w = .ok (.value v) w := by
    intro v hv
    rw [execOp, hop]; simp [resolve, h0, e1, e2, invoke, builtin, hv]
  split at h
  · rename_i s h3 h4
    cases h
    rw [h4] at hx
    refine ⟨rfl, _, go _ ?_, rfl⟩
    simp [Builtin.len_, run_und h3, show ρv x = .string s from hx, goInt]
  · rename_i e h3
    split at h
    · rename_i n sz f h4
      cases h
      refine ⟨rfl, .int .i64 n, go _ ?_, rfl⟩
      rcases rowsOf_rep h4 hx with ⟨rfl, ev⟩ | ⟨b, off, cap, ev, _⟩ <;> simp [Builtin.len_, run_und h3, ev, goInt]
    · cases h
  · cases h
theorem p_max {c : Call} {x y : Operand} {r : Rs} (hop : o.op = .call c) (h0 : c.callee = .builtin .max) (h1 : c.args.toList = [x, y]) (hx : RepA g w (ρ x) (ρv x)) (hy : RepA g w (ρ y) (ρv y)) (h : aopV P mem ρ dst (.call c) = some r) : r.wr = none ∧ Pure P g w ρv o r.val := by
  simp only [aopV, h0, h1] at h
  have e1 : c.args = #[x, y] := by rw [← Array.toArray_toList (xs := c.args), h1]
  split at h
  · rename_i k m k' n e2 e3
    cases h
    rw [e2] at hx; rw [e3] at hy
    refine ⟨rfl, _, ?_, rfl⟩
    rw [execOp, hop]; simp [resolve, h0, e1, invoke, builtin, Builtin.max_, Builtin.max2, show ρv x = .int k m from hx, show ρv y = .int k' n from hy]
  · cases h
theorem p_min {c : Call} {x y : Operand} {r : Rs} (hop : o.op = .call c) (h0 : c.callee = .builtin .min) (h1 : c.args.toList = [x, y]) (hx : RepA g w (ρ x) (ρv x)) (hy : RepA g w (ρ y) (ρv y)) (h : aopV P mem ρ dst (.call c) = some r) : r.wr = none ∧ Pure P g w ρv o r.val := by
  simp only [aopV, h0, h1] at h
  have e1 : c.args = #[x, y] := by rw [← Array.toArray_toList (xs := c.args), h1]
  split at h
  · rename_i k m k' n e2 e3
    cases h
    rw [e2] at hx; rw [e3] at hy
    refine ⟨rfl, _, ?_, rfl⟩
    rw [execOp, hop]; simp [resolve, h0, e1, invoke, builtin, Builtin.min_, Builtin.min2, show ρv x = .int k m from hx, show ρv y = .int k' n from hy]
  · cases h
end Go.Ab
