/- Each operation is sound. -/
import Derived.Test.YtggkkkpafealkaaAbE4
namespace Go.Ab
open Go
variable {P : Program} {E : Env} {g : G} {w : World} {a : Act} {st : St} {ρ : Operand → A} {ρv : Operand → Value} {dst : Option Nat} {o : Oper}
theorem zeroCells_run {t : TypeId} {z : List D} (h : zeroCellsOf P t = some z) : ∃ v i, P.info? t = some i ∧ i.zero = some v ∧ (zeroValue t).run P w = .ok v w ∧ RepL (RepD w g.S) z v.cells.toList := by
  unfold zeroCellsOf at h
  split at h
  · rename_i i hi
    split at h
    · rename_i v hv
      exact ⟨v, i, hi, hv, by simp [zeroValue, typeInfo, hi, hv], ofCells_rep h⟩
    · cases h
  · cases h
def spliceV (off : Nat) : Array Value → List Value → Nat → Array Value
  | c, [], _ => c
  | c, v :: r, j => spliceV off (c.setIfInBounds (off + j) v) r (j + 1)
theorem foldl_splice (off : Nat) : ∀ (l : List Value) (cs : Array Value) (k : Nat), (l.zipIdx k).foldl (fun cs (x : Value × Nat) => cs.setIfInBounds (off + x.2) x.1) cs = spliceV off cs l k := by
  intro l
  induction l with
  | nil => intro cs k; rfl
  | cons v r ih => intro cs k; simp only [List.zipIdx_cons, List.foldl_cons, spliceV]; exact ih _ (k + 1)
theorem forceD_eq {α : Type} : ∀ (l : List D) (k : List D → α), forceD l k = k l
  | [], _ => rfl
  | x :: xs, k => by rw [forceD, forceD_eq xs]
theorem splice_go {S : Nat → Nat → Prop} (off : Nat) : ∀ (l : List Value) (ds : List D) (k : Nat) (cs : Array Value) (zs : List D), RepL (RepD w S) zs cs.toList → RepL (RepD w S) ds l →
    RepL (RepD w S) (spliceD zs (off + k) ds) (spliceV off cs l k).toList
  | [], ds, k, cs, zs, h, hd => by cases ds with | nil => exact h | cons => obtain ⟨_, _, e, _⟩ := hd; cases e
  | v :: r, ds, k, cs, zs, h, hd => by
    cases ds with
    | nil => cases hd
    | cons d ds =>
      obtain ⟨v', r', e, h1, h2⟩ := hd
      cases e
      simp only [spliceV, spliceD]
      have := splice_go off r ds (k + 1) (cs.setIfInBounds (off + k) v) (zs.set (off + k) d) (by rw [Array.toList_setIfInBounds]; exact h.set h1 (off + k)) h2
      rw [← Nat.add_assoc] at this; exact this
theorem spliceD_length : ∀ (ds zs : List D) (off : Nat), (spliceD zs off ds).length = zs.length
  | [], _, _ => rfl
  | d :: ds, zs, off => by simp only [spliceD]; rw [spliceD_length ds]; simp
theorem spliceA_length : ∀ (ds zs : List A) (off : Nat), (spliceA zs off ds).length = zs.length
  | [], _, _ => rfl
  | d :: ds, zs, off => by simp only [spliceA]; rw [spliceA_length ds]; simp
theorem fill_run {place : Nat → Option (Nat × Nat)} : ∀ {l : List (Nat × A)} {lv : List (Nat × Value)} {zs ds : List D} {cells : Array Value}, l.length = lv.length → (∀ (j : Nat) (p : Nat × A) (q : Nat × Value), l[j]? = some p → lv[j]? = some q → p.1 = q.1 ∧ RepA g w p.2 q.2) →
    RepL (RepD w g.S) zs cells.toList → fillD place zs l = some ds → ∃ cells', Instr.fill place cells lv = some cells' ∧ RepL (RepD w g.S) ds cells'.toList ∧ ds.length = zs.length
  | [], lv, zs, ds, cells, hl, _, hz, h => by
    cases lv with
    | nil => cases h; exact ⟨cells, rfl, hz, rfl⟩
    | cons => simp at hl
  | (i, x) :: l, lv, zs, ds, cells, hl, hr, hz, h => by
    cases lv with
    | nil => simp at hl
    | cons q lv =>
      obtain ⟨i', v⟩ := q
      obtain ⟨hi, hx⟩ := hr 0 _ _ rfl rfl
      simp only at hi hx
      subst hi
      unfold fillD at h
      split at h
      · rename_i off size cs h1 h2
        split at h
        · rename_i hok
          rw [Bool.and_eq_true] at hok
          have e1 : cs.length = size := Nat.eq_of_beq_eq_true hok.1
          have e2 : off + cs.length ≤ zs.length := Nat.le_of_ble_eq_true hok.2
          have hc := dataOf_rep h2 hx
          have l1 := hc.length
          have l2 := hz.length
          simp only [Array.length_toList] at l1 l2
          have hsp := splice_go (w := w) (S := g.S) off v.cells.toList cs 0 cells zs hz hc
          obtain ⟨c', h3, h4, h5⟩ := fill_run (by simpa using hl) (fun j p q hp hq => hr (j + 1) p q (by simpa using hp) (by simpa using hq)) (cells := spliceV off cells v.cells.toList 0) (by simpa using hsp) h
          refine ⟨c', ?_, h4, by rw [h5, spliceD_length]⟩
          unfold Instr.fill
          rw [h1]
          simp only
          rw [if_neg (by simp; omega)]
          have := foldl_splice off v.cells.toList cells 0
          rw [← Array.foldl_toList, Array.toList_zipIdx, this]
          exact h3
        · cases h
      · cases h
theorem places_run : ∀ {fs : List Field} {pl : List (Nat × Nat)}, fieldPlaces P fs = some pl → (fs.mapM (m := Sem) fun f => do pure (f.offset, ← sizeOf f.type)).run P w = .ok pl w
  | [], pl, h => by cases h; rfl
  | f :: fs, pl, h => by
    unfold fieldPlaces at h
    split at h
    · rename_i s r h1 h2
      cases h
      rw [List.mapM_cons]; simp only [Sem.run_bind, Sem.run_pure, run_tsz h1, Result.andThen_ok, places_run h2]
    · cases h
theorem parts_rep {parts : Array (Nat × Operand)} (hx : ∀ x ∈ (parts.toList.map (·.2)), RepA g w (ρ x) (ρv x)) :
    ∀ (j : Nat) (p : Nat × A) (q : Nat × Value), (parts.toList.map fun p => (p.1, ρ p.2))[j]? = some p → ((parts.map fun (i, x) => (i, ρv x)).toList)[j]? = some q → p.1 = q.1 ∧ RepA g w p.2 q.2 := by
  intro j p q hp hq
  simp only [List.getElem?_map, Option.map_eq_some_iff] at hp
  obtain ⟨pr, h1, rfl⟩ := hp
  rw [Array.toList_map] at hq
  simp only [List.getElem?_map, Option.map_eq_some_iff] at hq
  obtain ⟨pr', h2, rfl⟩ := hq
  rw [h1] at h2; cases h2
  exact ⟨rfl, hx pr.2 (List.mem_map.2 ⟨pr, List.mem_of_getElem? h1, rfl⟩)⟩
theorem p_build {t : TypeId} {parts : Array (Nat × Operand)} {mem : Nat → Option M} {r : Rs} (hop : o.op = .build t parts) (hx : ∀ x ∈ (parts.toList.map (·.2)), RepA g w (ρ x) (ρv x)) (h : aopV P mem ρ dst (.build t parts) = some r) : r.wr = none ∧ Pure P g w ρv o r.val := by
  simp only [aopV] at h
  split at h
  · rename_i fs z h1 h2
    split at h
    · rename_i pl h3
      split at h
      · rename_i cs h4
        rw [forceD_eq] at h
        cases h
        obtain ⟨zv, i, _, _, hz, hzr⟩ := zeroCells_run (P := P) (g := g) (w := w) h2
        obtain ⟨c', h5, h6, _⟩ := fill_run (g := g) (w := w) (lv := (parts.map fun (i, x) => (i, ρv x)).toList) (by simp) (parts_rep hx) hzr h4
        have hpl := places_run (P := P) (w := w) h3
        refine ⟨rfl, .agg c', ?_, c', rfl, h6⟩
        have hm : (fs.mapM (m := Sem) fun f => do pure (f.offset, ← sizeOf f.type)).run P w = .ok pl.toArray w := by
          rw [Array.mapM_eq_mapM_toList, Sem.run_map, hpl]; rfl
        have hf : (Instr.fill (fun x => pl.toArray[x]?) zv.cells (parts.map fun (i, x) => (i, ρv x)).toList) = some c' := by
          have : (fun x => pl.toArray[x]?) = fun (i : Nat) => pl[i]? := by funext x; simp
          rw [this]; exact h5
        rw [execOp, hop]
        simp only [Instr.build, Sem.run_bind, hz, Result.andThen_ok, run_und h1, hm, hf]
        rfl
      · cases h
    · cases h
  · cases h
theorem repD_rep {S : Nat → Nat → Prop} {z : List D} {zv : Array Value} (h : RepL (RepD w S) z zv.toList) : ∀ n, RepL (RepD w S) (repD n z) ((List.range (n * zv.size)).map fun i => zv[i % zv.size]!)
  | 0 => by simp [repD, RepL]
  | n + 1 => by
    have ih := repD_rep h n
    by_cases h0 : zv.size = 0
    · have hz : z = [] := List.eq_nil_of_length_eq_zero (by have := h.length; simp at this; omega)
      subst hz
      rw [h0] at ih ⊢
      simp only [repD, Nat.mul_zero, List.range_zero, List.map_nil, List.nil_append] at ih ⊢
      exact ih
    · have e : (n + 1) * zv.size = zv.size + n * zv.size := by rw [Nat.add_mul, Nat.one_mul, Nat.add_comm]
      rw [repD, e, List.range_add, List.map_append]
      refine RepL.append ?_ ?_
      · have : (List.range zv.size).map (fun i => zv[i % zv.size]!) = zv.toList := by
          apply List.ext_getElem (by simp)
          intro i h1 h2
          simp at h1
          simp [Nat.mod_eq_of_lt h1, h1]
        rw [this]; exact h
      · rw [List.map_map]
        have : (List.range (n * zv.size)).map ((fun i => zv[i % zv.size]!) ∘ fun x => zv.size + x) = (List.range (n * zv.size)).map fun i => zv[i % zv.size]! := by
          refine List.map_congr_left fun i _ => ?_
          simp
        rw [this]; exact ih
theorem repD_length (z : List D) : ∀ n, (repD n z).length = n * z.length
  | 0 => by simp [repD]
  | n + 1 => by rw [repD, List.length_append, repD_length z n, Nat.add_mul, Nat.one_mul, Nat.add_comm]
theorem m_buildSlice {t : TypeId} {n : Nat} {parts : Array (Nat × Operand)} {r : Rs} (hop : o.op = .buildSlice t n parts) (hx : ∀ x ∈ (parts.toList.map (·.2)), RepA g w (ρ x) (ρv x)) (hr : RepG E g w a st) (h : aopV P st.mem ρ dst (.buildSlice t n parts) = some r) : MemOk P E g w a st ρv o r := by
  simp only [aopV] at h
  split at h
  · rename_i e h1
    split at h
    · rename_i sz z h2 h3
      split at h
      · rename_i hok
        rw [Bool.and_eq_true, Bool.and_eq_true] at hok
        have hsz : 1 ≤ sz := Nat.le_of_ble_eq_true hok.1.1
        have hzl : z.length = sz := Nat.eq_of_beq_eq_true hok.1.2
        have hle : n * sz ≤ 16777216 := Nat.le_of_ble_eq_true hok.2
        split at h
        · rename_i cs h4
          rw [forceD_eq] at h
          cases h
          obtain ⟨zv, i, hi, hiz, hz, hzr⟩ := zeroCells_run (P := P) (g := g) (w := w) h3
          have hzs : zv.cells.size = sz := by have := hzr.length; simp at this; omega
          have hrep := repD_rep (w := w) (S := g.S) hzr n
          obtain ⟨c', h5, h6, h7⟩ := fill_run (g := g) (w := w) (lv := (parts.map fun (i, x) => (i, ρv x)).toList) (cells := (Array.range (n * sz)).map fun i => zv.cells[i % zv.cells.size]!) (by simp) (parts_rep hx) (by rw [hzs] at hrep; rw [hzs]; simpa using hrep) h4
          have hcl : c'.size = n * sz := by have := h6.length; simp at this; rw [this, h7, repD_length, hzl]
          obtain ⟨g', s1, s2, s3⟩ := newStable hr c' e
          refine ⟨.slice (some ⟨w.heap.size, 0, none⟩) n n, _, g', .inl ?_, s1, ?_, s2⟩
          · rw [execOp, hop]
            have hle' : ¬ n * sz > 2 ^ 24 := by omega
            simp only [Instr.buildSlice, Sem.run_bind, run_und h1, Result.andThen_ok, run_tsz h2, if_neg hle']
            by_cases h0 : n * sz = 0
            · have hz' : (Array.range (n * sz)).map (fun i => (#[] : Array Value)[i % (#[] : Array Value).size]!) = (Array.range (n * sz)).map fun i => zv.cells[i % zv.cells.size]! := by simp [h0]
              simp only [if_pos h0, Sem.run_bind, Sem.run_pure, Result.andThen_ok, hz', h5]
              rfl
            · simp only [if_neg h0, Sem.run_bind, Sem.run_pure, Result.andThen_ok, hz, h5]
              rfl
          · refine .inr ⟨w.heap.size, 0, n, rfl, Nat.le_refl _, fun q hq j hj => ?_⟩
            have hlt : q * sz + j < n * sz := by
              have := Nat.mul_le_mul_right sz (show q + 1 ≤ n by omega); rw [Nat.add_mul] at this; omega
            rw [Nat.zero_add]
            refine ⟨by rw [s3]; exact .inr rfl, ?_⟩
            have hlc : q * sz + j < cs.length := by have := h6.length; simp at this; omega
            obtain ⟨u, hu, hd⟩ := h6.get (List.getElem?_eq_getElem hlc)
            refine ⟨u, ?_, ?_⟩
            · rw [cell_of_row _ _ _ c' e (0, 0) (han w _)]; simpa using hu
            · have : rowD cs sz q j = cs[q * sz + j] := by simp [rowD, hlc]
              rw [this]; exact hd.mono s1.S
        · cases h
      · cases h
    · cases h
  · cases h
theorem m_alloc {t : TypeId} {r : Rs} (hop : o.op = .alloc t) (hr : RepG E g w a st) (h : aopV P st.mem ρ dst (.alloc t) = some r) : MemOk P E g w a st ρv o r := by
  simp only [aopV] at h
  split at h
  · rename_i d z h1
    split at h
    · rename_i hd hd2
      cases h
      obtain ⟨zv, i, hi, hiz, hz, hzr⟩ := zeroCells_run (P := P) (g := g) (w := w) h1
      obtain ⟨g', s1, s2, s3, s4⟩ := newBox hr zv.cells t hd (Nat.le_of_ble_eq_true hd2) (RepL.map (f := A.d) (R' := RepA g w) (fun _ _ h => h) hzr)
      refine ⟨.pointer (some ⟨w.heap.size, 0, none⟩), _, g', .inl ?_, s1, ⟨by rw [s4], s3⟩, s2⟩
      rw [execOp, hop]; simp [Instr.alloc, hz, newVar, newRow]
    · cases h
  · cases h
theorem m_box {t : TypeId} {x : Operand} {r : Rs} (hop : o.op = .box t x) (hx : RepA g w (ρ x) (ρv x)) (hr : RepG E g w a st) (h : aopV P st.mem ρ dst (.box t x) = some r) : MemOk P E g w a st ρv o r := by
  simp only [aopV] at h
  split at h
  · rename_i d z h1
    split at h
    · rename_i hd hd2
      cases h
      obtain ⟨g', s1, s2, s3, s4⟩ := newBox hr (ρv x).cells t hd (Nat.le_of_ble_eq_true hd2) (cellsOf_rep h1 hx).1
      refine ⟨.pointer (some ⟨w.heap.size, 0, none⟩), _, g', .inl ?_, s1, ⟨by rw [s4], s3⟩, s2⟩
      rw [execOp, hop]; simp [Instr.box, newVar, newRow]
    · cases h
  · cases h
theorem spliceA_rep {R : A → Value → Prop} : ∀ (l : List Value) (ds : List A) (off : Nat) (zs : List A) (cs : List Value), RepL R zs cs → RepL R ds l → off + l.length ≤ cs.length → RepL R (spliceA zs off ds) (cs.take off ++ l ++ cs.drop (off + l.length))
  | [], ds, off, zs, cs, h, hd, _ => by
    cases ds with
    | nil => simpa [spliceA] using h
    | cons => obtain ⟨_, _, e, _⟩ := hd; cases e
  | v :: r, ds, off, zs, cs, h, hd, hle => by
    cases ds with
    | nil => cases hd
    | cons d ds =>
      obtain ⟨v', r', e, h1, h2⟩ := hd
      cases e
      have := spliceA_rep r ds (off + 1) (zs.set off d) (cs.set off v) (h.set h1 off) h2 (by simp at hle ⊢; omega)
      simp only [spliceA]
      have hlen : off < cs.length := by simp at hle; omega
      have e1 : (cs.set off v).take (off + 1) = cs.take off ++ [v] := by
        have hl2 : off < (cs.set off v).length := by simpa using hlen
        rw [List.take_succ_eq_append_getElem hl2, List.take_set_of_le (Nat.le_refl _)]
        simp
      have e2 : (cs.set off v).drop (off + 1 + r.length) = cs.drop (off + (v :: r).length) := by
        rw [List.drop_set_of_lt (by omega)]; congr 1; simp; omega
      rw [e1, e2] at this
      simpa using this
theorem m_store {t : TypeId} {x y : Operand} {r : Rs} (hop : o.op = .store t x y) (hx : RepA g w (ρ x) (ρv x)) (hy : RepA g w (ρ y) (ρv y)) (hr : RepG E g w a st) (h : aopV P st.mem ρ dst (.store t x y) = some r) : MemOk P E g w a st ρv o r := by
  simp only [aopV] at h
  split at h
  · rename_i k off vs n e1 e2 e3
    split at h
    · rename_i cs hk
      split at h
      · rename_i hok
        rw [Bool.and_eq_true] at hok
        have hn : vs.length = n := Nat.eq_of_beq_eq_true hok.1
        have hle : off + n ≤ cs.length := Nat.le_of_ble_eq_true hok.2
        cases h
        rw [e1] at hx
        obtain ⟨ex, _⟩ := hx
        obtain ⟨cur, T, hb, hrl, _⟩ := hr.box k cs hk
        obtain ⟨hc1, hc2⟩ := cellsOf_rep e2 hy
        have l1 := hc1.length
        have l2 := hrl.length
        simp only [Array.length_toList] at l1 l2
        have hst := run_storeCells_at P (g.β k) off T (ρv y).cells.toList 0 cur w hb (by simp; omega) hc2
        simp only [Nat.add_zero, Array.length_toList] at hst
        have hrow := setRow_heap w (g.β k) cur ((cur.toList.take off ++ (ρv y).cells.toList ++ cur.toList.drop (off + (ρv y).cells.size)).toArray) T (0, 0) hb
        obtain ⟨s1, s2⟩ := setBox (E := E) (a := a) (st := st) (cs' := spliceA cs off vs) hr hk hb hrow (fun b hb' => setRow_other w _ _ _ hb') (by simp) rfl rfl rfl (fun g' w' s => by
          have := spliceA_rep (R := RepA g' w') (ρv y).cells.toList vs off cs cur.toList (hrl.mono fun _ _ h => h.step s) (hc1.mono fun _ _ h => h.step s) (by simp; omega)
          simpa using this)
        refine ⟨undef, _, g, .inr ⟨?_, rfl⟩, s1, trivial, s2⟩
        rw [execOp, hop]
        have hsz : (ρv y).cells.size = n := by omega
        simp [Instr.storeAt, ex, Instr.sureAddr, storeVar, run_tsz e3, hsz, hst]
      · cases h
    · cases h
  · cases h
theorem oneRow_lt {m i j : Nat} {f : Nat → Nat → D} (hi : i < m) : oneRow m f i j = f i j := by
  unfold oneRow
  cases hb : Nat.beq m 1 with
  | false => rfl
  | true => have := Nat.eq_of_beq_eq_true hb; rw [show i = 0 by omega]
theorem oneRow_rep {S : Nat → Nat → Prop} {m sz : Nat} {f : Nat → Nat → D} {v : Value} (h : RepD w S (.sl m sz f) v) : RepD w S (.sl m sz (oneRow m f)) v := by
  rcases h with h | ⟨b, off, cap, h1, h2, h3⟩
  · exact .inl h
  · refine .inr ⟨b, off, cap, h1, h2, fun i hi j hj => ?_⟩
    rw [oneRow_lt hi]; exact h3 i hi j hj
theorem m_append {c : Call} {s x : Operand} {t t' : TypeId} {r : Rs} (hop : o.op = .call c) (h0 : c.callee = .builtin .append) (h1 : c.args.toList = [s, x]) (h2 : c.argTypes.toList = [t, t']) (hs : RepA g w (ρ s) (ρv s)) (hx : RepA g w (ρ x) (ρv x)) (hr : RepG E g w a st)
    (h : aopV P st.mem ρ dst (.call c) = some r) (hc : ∀ b ∈ r.cond, b = true) : MemOk P E g w a st ρv o r := by
  simp only [aopV, h0, h1, h2] at h
  have e1 : c.args = #[s, x] := by rw [← Array.toArray_toList (xs := c.args), h1]
  split at h
  · rename_i e h3 ht
    obtain rfl : t = t' := Nat.eq_of_beq_eq_true ht
    have e2 : c.argTypes = #[t, t] := by rw [← Array.toArray_toList (xs := c.argTypes), h2]
    have go : ∀ (v : Value) (w' : World), (Builtin.append_ #[t, t] o.type #[ρv s, ρv x]).run P w = .ok v w' → (execOp ρv o).run P w = .ok (.value v) w' := by
      intro v w' hv
      rw [execOp, hop]; simp [resolve, h0, e1, e2, invoke, builtin, hv]
    split at h
    · rename_i i z m sz' g0 h4 h5 h6
      split at h
      · rename_i hok
        rw [Bool.and_eq_true, Bool.and_eq_true] at hok
        have hpos : 0 < i.size := Nat.le_of_ble_eq_true hok.1
        have hzl : z.length = i.size := Nat.eq_of_beq_eq_true hok.2.1
        obtain rfl : sz' = i.size := Nat.eq_of_beq_eq_true hok.2.2
        obtain ⟨zv, i', hi, hiz, _, hzr⟩ := zeroCells_run (P := P) (g := g) (w := w) h5
        rw [h4] at hi; cases hi
        have hzs : zv.cells.size = i.size := by have := hzr.length; simp at this; omega
        have hxd := oneRow_rep (rowsOf_rep h6 hx)
        split at h
        · rename_i es
          split at h
          · rename_i d
            split at h
            · rename_i hd
              cases h
              rw [es] at hs
              simp only [List.mem_cons, List.not_mem_nil, or_false, forall_eq_or_imp, forall_eq, decide_eq_true_eq] at hc
              obtain ⟨v, w', g', q1, q2, q3, q4⟩ := append_core (P := P) (ty := o.type) h3 h4 hiz (k := d) (n := 0) (f := g0) (h0 := oneRow m g0) hpos rfl hzs hr (.inl ⟨rfl, hs, .inl hd⟩) hxd (by rw [Nat.zero_add]; exact hc.1) (by rw [Nat.zero_add]; exact hc.2)
              refine ⟨v, w', g', .inl (go _ _ q1), q2, ?_, by rw [Nat.zero_add] at q4; exact q4⟩
              have ef : apRow 0 g0 (oneRow m g0) = oneRow m g0 := by funext i j; rw [apRow_ge (Nat.zero_le _), Nat.sub_zero]
              rw [ef, Nat.zero_add] at q3; exact q3
            · cases h
          · cases h
        · rename_i n sz f k es
          split at h
          · rename_i u hk
            cases h
            rw [es] at hs
            simp only [List.mem_cons, List.not_mem_nil, or_false, forall_eq_or_imp, forall_eq, decide_eq_true_eq] at hc
            obtain ⟨hc1, rfl, hc3, hc4⟩ := hc
            obtain rfl : sz = i.size := Nat.eq_of_beq_eq_true hc1
            obtain ⟨hp, hle, hd, hz0, hz1⟩ := hs
            have hu := (hr.chain k n hk).1
            have hcase : (n = 0 ∧ ρv s = .slice none 0 0 ∧ (st.mem k = none ∨ (st.mem k = some (.chain 0) ∧ g.PC k))) ∨ (0 < n ∧ st.mem k = some (.chain n) ∧ g.PC k ∧ RepD w g.S (.sl n i.size f) (ρv s) ∧ g.sz k = i.size ∧ ρv s = .slice (some ⟨g.cb k, 0, none⟩) n (g.cap k)) := by
              by_cases hn : n = 0
              · subst hn; exact .inl ⟨rfl, hz0 rfl, .inr ⟨hk, hp⟩⟩
              · obtain ⟨h7, h8⟩ := hz1 (by omega) hu
                exact .inr ⟨by omega, hk, hp, hd, h7.symm, h8⟩
            obtain ⟨v, w', g', q1, q2, q3, q4⟩ := append_core (P := P) (ty := o.type) h3 h4 hiz (k := k) (n := n) (f := f) (h0 := oneRow m g0) hpos rfl hzs hr hcase hxd hc3 hc4
            exact ⟨v, w', g', .inl (go _ _ q1), q2, q3, q4⟩
          · cases h
        · cases h
      · cases h
    · cases h
  · cases h
end Go.Ab
