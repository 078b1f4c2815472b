/- Operations that only compute are sound: one by one. -/
import Derived.Test.YtggkkkpafealkaaAbD
import Derived.Laws.BytesArg
namespace Go.Ab
open Go
variable {P : Program} {E : Env} {g : G} {w : World} {a : Act} {st : St} {ρ : Operand → A} {ρv : Operand → Value} {mem : Nat → Option M} {dst : Option Nat} {o : Oper}
/-- what is to be shown of an operation that turns nothing -/
def Pure (P : Program) (g : G) (w : World) (ρv : Operand → Value) (o : Oper) (x : A) : Prop := ∃ v, (execOp ρv o).run P w = .ok (.value v) w ∧ RepA g w x v
theorem run_und {t : TypeId} {d : TypeDesc} (h : P.underlying t = some d) : (underlying t).run P w = .ok d w := by simp [underlying, h]
theorem run_tsz {t : TypeId} {n : Nat} (h : tsz P t = some n) : (sizeOf t).run P w = .ok n w := by
  unfold tsz at h; split at h
  · rename_i i hi; cases h; simp [sizeOf, typeInfo, hi]
  · cases h
theorem run_isAgg {t : TypeId} {d : TypeDesc} (h : P.underlying t = some d) : (isAgg t).run P w = .ok (isAggD d) w := by
  simp only [isAgg, Sem.run_bind, run_und h, Result.andThen_ok]
  cases d <;> rfl
theorem p_move {x : Operand} (hop : o.op = .move x) (hx : RepA g w (ρ x) (ρv x)) : Pure P g w ρv o (ρ x) := ⟨_, by rw [execOp, hop]; rfl, hx⟩
theorem p_assign {x : Operand} (hop : o.op = .assign x) (hx : RepA g w (ρ x) (ρv x)) : Pure P g w ρv o (ρ x) := ⟨_, by rw [execOp, hop]; rfl, hx⟩
theorem p_nilCheck {x : Operand} {r : Rs} (hop : o.op = .nilCheck x) (hx : RepA g w (ρ x) (ρv x)) (h : aopV P mem ρ dst (.nilCheck x) = some r) : r.wr = none ∧ Pure P g w ρv o r.val := by
  simp only [aopV] at h
  split at h <;> (try contradiction)
  · rename_i k off e; cases h; rw [e] at hx; refine ⟨rfl, _, ?_, hx⟩; rw [execOp, hop]; simp [hx.1]
  · rename_i n c e; cases h; rw [e] at hx; obtain ⟨b, off, e1, h2⟩ := hx; refine ⟨rfl, _, ?_, ⟨b, off, rfl, h2⟩⟩; rw [execOp, hop]; simp [e1]
  · rename_i f cs e; cases h; rw [e] at hx; obtain ⟨vs, e1, h2⟩ := hx; refine ⟨rfl, _, ?_, ⟨vs, rfl, h2⟩⟩; rw [execOp, hop]; simp [e1]
theorem capsOf_rep {ρ : Operand → A} {ρv : Operand → Value} : ∀ {l : List Operand} {cs : List Cp}, (∀ x ∈ l, RepA g w (ρ x) (ρv x)) → capsOf (l.map ρ) = some cs → RepL (RepCp g w) cs (l.map ρv)
  | [], cs, _, h => by cases h; rfl
  | x :: l, cs, hx, h => by
    simp only [List.map_cons, capsOf] at h
    split at h
    · rename_i c cs' h1 h2
      cases h
      refine ⟨_, _, rfl, ?_, capsOf_rep (fun y hy => hx y (List.mem_cons_of_mem _ hy)) h2⟩
      have hr := hx x List.mem_cons_self
      unfold capOf at h1
      split at h1
      · rename_i k e; cases h1; rw [e] at hr; exact hr
      · rename_i d e; cases h1; rw [e] at hr; exact hr
      · cases h1
    · cases h
theorem p_makeFunc {fn : Fn} {fs cs : Array Operand} {r : Rs} (hop : o.op = .makeFunc fn fs cs) (hx : ∀ x ∈ cs.toList, RepA g w (ρ x) (ρv x)) (h : aopV P mem ρ dst (.makeFunc fn fs cs) = some r) : r.wr = none ∧ Pure P g w ρv o r.val := by
  cases fn with
  | func f =>
    simp only [aopV] at h
    split at h
    · rename_i c h1 h2
      cases h
      have hf : fs = #[] := by rw [← Array.toArray_toList (xs := fs), h1]
      refine ⟨rfl, .func (.func f) #[] (cs.map ρv), ?_, _, rfl, ?_⟩
      · rw [execOp, hop, hf]; simp [Instr.makeFunc]
      · rw [Array.toList_map]; exact capsOf_rep hx h2
    · cases h
  | _ => simp [aopV] at h
theorem p_extract {x : Operand} {i : Nat} {r : Rs} (hop : o.op = .extract x i) (hx : RepA g w (ρ x) (ρv x)) (h : aopV P mem ρ dst (.extract x i) = some r) : r.wr = none ∧ Pure P g w ρv o r.val := by
  simp only [aopV] at h
  split at h
  · rename_i vs e
    split at h
    · rename_i v hv
      cases h
      rw [e] at hx; obtain ⟨us, e1, h2⟩ := hx
      obtain ⟨u, hu, hr⟩ := h2.get hv
      refine ⟨rfl, u, ?_, ofV_rep hr⟩
      have : us[i]? = some u := by simpa using hu
      rw [execOp, hop]; simp [e1, Instr.extract, this]
    · cases h
  · cases h
theorem fieldAddr_run {t : TypeId} {x : Operand} {f : Nat} {fs : Array Field} {fd : Field} {s : Nat} (ad : Addr) (hop : o.op = .fieldAddr t x f) (h1 : P.underlying t = some (.struct fs)) (h2 : fs[f]? = some fd) (h3 : tsz P fd.type = some (s + 1)) (hv : ρv x = .pointer (some ad)) :
    (execOp ρv o).run P w = .ok (.value (.pointer (some (ad.add fd.offset)))) w := by
  rw [execOp, hop]; simp [Instr.fieldAt, run_und h1, h2, hv, Instr.sureAddr, fieldPlace, run_tsz h3]
theorem add_spot (b off n : Nat) : (⟨b, off, none⟩ : Addr).add n = ⟨b, off + n, none⟩ := by unfold Addr.add; split <;> simp_all
theorem p_fieldAddr {t : TypeId} {x : Operand} {f : Nat} {r : Rs} (hop : o.op = .fieldAddr t x f) (hx : RepA g w (ρ x) (ρv x)) (h : aopV P mem ρ dst (.fieldAddr t x f) = some r) : r.wr = none ∧ Pure P g w ρv o r.val := by
  simp only [aopV] at h
  split at h
  · rename_i fs h1
    split at h
    · rename_i fd h2
      split at h
      · rename_i s h3
        split at h
        · rename_i k off e; cases h; rw [e] at hx
          refine ⟨rfl, _, fieldAddr_run _ hop h1 h2 h3 hx.1, ?_⟩
          rw [add_spot]; exact ⟨rfl, hx.2⟩
        · rename_i n c e; cases h; rw [e] at hx
          obtain ⟨b, off, e1, h4⟩ := hx
          refine ⟨rfl, _, fieldAddr_run _ hop h1 h2 h3 e1, ?_⟩
          rw [add_spot]; refine ⟨b, _, rfl, fun j hj => ?_⟩
          have := h4 (fd.offset + j) (by omega)
          rw [← Nat.add_assoc] at this; exact this
        · cases h
      · cases h
    · cases h
  · cases h
theorem p_unOp {op : UnOp} {t : TypeId} {x : Operand} {r : Rs} (hop : o.op = .unOp op t x) (hx : RepA g w (ρ x) (ρv x)) (h : aopV P mem ρ dst (.unOp op t x) = some r) : r.wr = none ∧ Pure P g w ρv o r.val := by
  simp only [aopV] at h
  split at h
  · rename_i v hv
    cases h
    refine ⟨rfl, ?_⟩
    unfold unV at hv
    split at hv
    · rename_i b e; rw [e] at hx
      split at hv <;> cases hv
      exact ⟨_, by rw [execOp, hop]; simp only [show ρv x = .bool b from hx]; rfl, rfl⟩
    · rename_i k n e; rw [e] at hx
      split at hv <;> cases hv
      exact ⟨_, by rw [execOp, hop]; simp only [show ρv x = .int k n from hx]; rfl, rfl⟩
    · cases hv
  · cases h
theorem bytesUp_get {f : Nat → Nat → D} : ∀ {n i : Nat} {xs : List Int}, bytesUp f i n = some xs → xs.length = n ∧ ∀ j, j < n → ∃ x, f (i + j) 0 = .int .u8 x ∧ xs[j]? = some x
  | 0, i, xs, h => by cases h; exact ⟨rfl, fun j hj => absurd hj (Nat.not_lt_zero j)⟩
  | n + 1, i, xs, h => by
    simp only [bytesUp] at h
    split at h
    · rename_i x l h1 h2
      cases h
      obtain ⟨h3, h4⟩ := bytesUp_get h2
      refine ⟨by simp [h3], fun j hj => ?_⟩
      cases j with
      | zero => exact ⟨x, h1, rfl⟩
      | succ j =>
        obtain ⟨x', h5, h6⟩ := h4 j (by omega)
        exact ⟨x', by rw [show i + (j + 1) = i + 1 + j by omega]; exact h5, by simpa using h6⟩
    · cases h
theorem p_convert {s t : TypeId} {x : Operand} {r : Rs} (hop : o.op = .convert s t x) (hx : RepA g w (ρ x) (ρv x)) (h : aopV P mem ρ dst (.convert s t x) = some r) : r.wr = none ∧ Pure P g w ρv o r.val := by
  simp only [aopV] at h
  split at h <;> (try contradiction)
  · rename_i k1 k2 k3 n h1 h2 e
    cases h; rw [e] at hx
    refine ⟨rfl, _, ?_, rfl⟩
    rw [execOp, hop]; simp [convert, run_und h1, run_und h2, show ρv x = .int _ n from hx, Conv.intToInt]
  · rename_i q h1 h2 e
    cases h; rw [e] at hx
    refine ⟨rfl, _, ?_, rfl⟩
    rw [execOp, hop]; simp [convert, run_und h1, run_und h2, show ρv x = .string q from hx]
  · rename_i et n sz f h1 h2 e
    split at h <;> (try contradiction)
    rename_i xs h3 h4 h5
    cases h; rw [e] at hx
    obtain rfl : sz = 1 := Nat.eq_of_beq_eq_true h4
    obtain ⟨hl, hg⟩ := bytesUp_get h5
    refine ⟨rfl, _, ?_, rfl⟩
    rw [execOp, hop]
    show (do pure (Next.value (← convert s t (ρv x))) : Sem _).run P w = _
    rcases hx with ⟨h6, h7⟩ | ⟨b, off, cap, h6, _, h7⟩
    · have : xs = [] := List.eq_nil_of_length_eq_zero (by omega)
      subst this
      rw [h7, Sem.run_bind, run_convert_bytes_nil w s et h1 h3 _ _ t h2]
      rfl
    · rw [h6, Sem.run_bind, run_convert_bytes_arg w s et h1 h3 b off n cap xs hl (fun i hi => by
        obtain ⟨x', hx1, hx2⟩ := hg i hi
        obtain ⟨_, u, hu, hr⟩ := h7 i hi 0 (by omega)
        rw [Nat.mul_one, Nat.add_zero] at hu
        rw [Nat.zero_add] at hx1
        rw [hx1] at hr
        rw [hu, show u = .int .u8 x' from hr]
        simp [List.getD, hx2]) t h2]
      rfl
theorem eqGuard_int {op : BinOp} {t : TypeId} {x y : Operand} {k k' : IntKind} {m n : Int} : (eqGuard op t x y (.int k m) (.int k' n)).run P w = .ok () w := by
  unfold eqGuard; cases op <;> rfl
theorem eqGuard_str {op : BinOp} {t : TypeId} {x y : Operand} {m n : ByteArray} : (eqGuard op t x y (.string m) (.string n)).run P w = .ok () w := by
  unfold eqGuard; cases op <;> rfl
theorem eqGuard_bool {op : BinOp} {t : TypeId} {x y : Operand} {m n : Bool} : (eqGuard op t x y (.bool m) (.bool n)).run P w = .ok () w := by
  unfold eqGuard; cases op <;> rfl
theorem run_binI {op : BinOp} {t : TypeId} {k : IntKind} {m n : Int} {d : D} {c : List Bool} (h : binI op k m n = some (d, c)) (hc : ∀ b ∈ c, b = true) :
    ∃ v, (binOp op t (.int k m) (.int k n)).run P w = .ok v w ∧ RepD w g.S d v := by
  cases op <;> simp only [binI, Option.some.injEq, Prod.mk.injEq, reduceCtorEq] at h <;> obtain ⟨rfl, rfl⟩ := h <;>
    first
    | (refine ⟨_, ?_, rfl⟩; simp [binOp, Op.intArith, Op.intBits, Op.intCmp]; done)
    | (have hz' : n ≠ 0 := by simpa using hc
       refine ⟨_, ?_, rfl⟩; simp [binOp, Op.intDiv, hz']; done)
theorem run_binS {op : BinOp} {t : TypeId} {m n : ByteArray} {d : D} {c : List Bool} (h : binS op m n = some (d, c)) (hc : ∀ b ∈ c, b = true) :
    ∃ v, (binOp op t (.string m) (.string n)).run P w = .ok v w ∧ RepD w g.S d v := by
  cases op <;> simp only [binS, Option.some.injEq, Prod.mk.injEq, reduceCtorEq] at h <;> obtain ⟨rfl, rfl⟩ := h <;>
    first
    | (refine ⟨_, ?_, rfl⟩; simp [binOp, Op.stringOp, ByteArray.toList_eq]; done)
    | (have hz : m.size + n.size ≤ 9223372036854775807 := by simpa using hc
       have hz' : ¬ ((m.size + n.size : Nat) : Int) > IntKind.i64.max := by rw [show IntKind.i64.max = 9223372036854775807 from rfl]; omega
       refine ⟨_, ?_, rfl⟩; simp only [binOp, Op.stringOp]; rw [if_neg hz']; rfl)
theorem part_run {t : TypeId} {cs : List D} {off : Nat} {x : A} {vs : Array Value} (h : partA P t cs off = some x) (hr : RepL (RepD w g.S) cs vs.toList) : ∃ v, (part t vs off).run P w = .ok v w ∧ RepA g w x v := by
  unfold partA at h
  split at h
  · rename_i d n h1 h2
    split at h
    · rename_i hd
      split at h
      · cases h
        refine ⟨.agg (vs.extract off (off + n)), by simp [part, run_isAgg h1, hd, run_tsz h2], _, rfl, ?_⟩
        rw [Array.toList_extract, List.extract_eq_take_drop]
        simpa using (hr.drop off).take n
      · cases h
    · rename_i hd
      split at h
      · rename_i c hc
        cases h
        obtain ⟨v, hv, hrd⟩ := hr.get hc
        have : vs[off]? = some v := by simpa using hv
        exact ⟨v, by simp [part, run_isAgg h1, hd, this], hrd⟩
      · cases h
  · cases h
theorem eqFs_run {d : Nat} {eq : TypeId → A → A → Option Bool} {xs ys : List D} {vs us : Array Value} (he : ∀ t x y b (v u : Value), eq t x y = some b → RepA g w x v → RepA g w y u → (Op.equalIn d t v u).run P w = .ok b w)
    (hx : RepL (RepD w g.S) xs vs.toList) (hy : RepL (RepD w g.S) ys us.toList) : ∀ {fs : List Field} {b : Bool}, eqFs P eq xs ys fs = some b → (Op.eqFields d vs us fs).run P w = .ok b w
  | [], b, h => by cases h; simp [Op.eqFields]
  | f :: fs, b, h => by
    unfold eqFs at h
    split at h
    · rename_i hn
      have : ¬ f.name ≠ "_" := by simpa using hn
      rw [Op.eqFields, if_neg this]; exact eqFs_run he hx hy h
    · rename_i hn
      have hn' : f.name ≠ "_" := by simpa using hn
      split at h
      · rename_i x y h1 h2
        split at h
        · rename_i r s h3 h4
          cases h
          obtain ⟨v, hv, hrv⟩ := part_run (P := P) h1 hx
          obtain ⟨u, hu, hru⟩ := part_run (P := P) h2 hy
          have h5 := he _ _ _ _ _ _ h3 hrv hru
          have h6 := eqFs_run he hx hy h4
          rw [Op.eqFields]
          simp only [if_pos hn', Sem.run_bind, hv, hu, h5, Result.andThen_ok]
          cases r
          · simp
          · simpa using h6
        · cases h
      · cases h
theorem eqT_run : ∀ {d : Nat} {t : TypeId} {x y : A} {b : Bool} {v u : Value}, eqT P d t x y = some b → RepA g w x v → RepA g w y u → (Op.equalIn d t v u).run P w = .ok b w
  | 0, _, _, _, _, _, _, h, _, _ => by simp [eqT] at h
  | d + 1, t, x, y, b, v, u, h, hx, hy => by
    unfold eqT at h
    split at h
    · rename_i k k1 m k2 n h1
      split at h
      · rename_i hk
        cases h
        obtain rfl := of_decide_eq_true hk
        rw [show v = .int k1 m from hx, show u = .int k1 n from hy]
        exact run_equalIn_int w d t k1 k m n h1
      · cases h
    · rename_i m n h1
      cases h
      rw [show v = .bool m from hx, show u = .bool n from hy]
      exact run_equalIn_bool' w d t m n h1
    · rename_i m n h1
      cases h
      rw [show v = .string m from hx, show u = .string n from hy]
      rw [← ByteArray.toList_eq, ← ByteArray.toList_eq]; exact run_equalIn_string w d t m n h1
    · rename_i fs xs ys h1
      split at h
      · cases h
      · rename_i hp
        obtain ⟨vs, rfl, h2⟩ := hx
        obtain ⟨us, rfl, h3⟩ := hy
        have hf : P.fieldsOf t = fs := by simp [Program.fieldsOf, h1]
        rw [run_equalIn_struct (P := P) w d t vs us (by rw [hf]; exact h1) hp, hf]
        exact eqFs_run (fun t x y b v u => eqT_run) h2 h3 h
    · cases h
theorem p_eqV {op : BinOp} {t u : TypeId} {x y : Operand} {X Y : A} {r : Rs} (hop : o.op = .binOp op t x y u) (hx : RepA g w X (ρv x)) (hy : RepA g w Y (ρv y)) (hxy : (∃ m n, X = .d (.bool m) ∧ Y = .d (.bool n)) ∨ (∃ xs ys, X = .agg xs ∧ Y = .agg ys)) (h : eqV P op t X Y = some r) : r.wr = none ∧ Pure P g w ρv o r.val := by
  unfold eqV at h
  split at h
  · cases h
  · rename_i hg
    have hcases : (∃ m n, X = .d (.bool m) ∧ Y = .d (.bool n)) ∨ (∃ xs ys, X = .agg xs ∧ Y = .agg ys) := hxy
    have main : ∀ b, eqT P 10000 t X Y = some b → (eqGuard op t x y (ρv x) (ρv y)).run P w = .ok () w ∧ (binOp .eql t (ρv x) (ρv y)).run P w = .ok (.bool b) w ∧ (binOp .neq t (ρv x) (ρv y)).run P w = .ok (.bool (!b)) w := by
      intro b hb
      have he := eqT_run hb hx hy
      rcases hcases with ⟨m, n, rfl, rfl⟩ | ⟨xs, ys, rfl, rfl⟩
      · have ex : ρv x = .bool m := hx
        have ey : ρv y = .bool n := hy
        rw [ex, ey] at he ⊢
        exact ⟨eqGuard_bool, by simp [binOp, Op.equal, Op.maxDepth, he], by simp [binOp, Op.equal, Op.maxDepth, he]⟩
      · obtain ⟨vs, e1, _⟩ := hx
        obtain ⟨us, e2, _⟩ := hy
        rw [e1, e2] at he ⊢
        exact ⟨run_eqGuard_agg w op t x y vs us hg, by simp [binOp, Op.equal, Op.maxDepth, he], by simp [binOp, Op.equal, Op.maxDepth, he]⟩
    split at h
    · split at h
      · rename_i b hb
        cases h
        obtain ⟨h1, h2, _⟩ := main b hb
        exact ⟨rfl, _, by rw [execOp, hop]; simp [h1, h2], rfl⟩
      · cases h
    · split at h
      · rename_i b hb
        cases h
        obtain ⟨h1, _, h2⟩ := main b hb
        exact ⟨rfl, _, by rw [execOp, hop]; simp [h1, h2], rfl⟩
      · cases h
    · cases h
theorem p_binV {op : BinOp} {t u : TypeId} {x y : Operand} {r : Rs} (hop : o.op = .binOp op t x y u) (hx : RepA g w (ρ x) (ρv x)) (hy : RepA g w (ρ y) (ρv y)) (h : binV op (ρ x) (ρ y) = some r) (hc : ∀ c ∈ r.cond, c = true) : r.wr = none ∧ Pure P g w ρv o r.val := by
  unfold binV at h
  split at h
  · rename_i k m k' n e1 e2
    rw [e1] at hx; rw [e2] at hy
    have ex : ρv x = .int k m := hx
    have ey : ρv y = .int k' n := hy
    have go : ∀ v : Value, (binOp op t (.int k m) (.int k' n)).run P w = .ok v w → (execOp ρv o).run P w = .ok (.value v) w := by
      intro v hv
      rw [execOp, hop]; simp [ex, ey, eqGuard_int, hv]
    split at h
    · cases h
      have h0 := of_decide_eq_true (hc _ List.mem_cons_self)
      refine ⟨rfl, _, go _ ?_, rfl⟩
      simp [binOp, Op.shift, show ¬ n < 0 by omega]
    · cases h
      have h0 := of_decide_eq_true (hc _ List.mem_cons_self)
      refine ⟨rfl, _, go _ ?_, rfl⟩
      simp [binOp, Op.shift, show ¬ n < 0 by omega]
    · split at h
      · rename_i hk
        obtain rfl := of_decide_eq_true hk
        split at h
        · rename_i v c hb
          cases h
          obtain ⟨v', h1, h2⟩ := run_binI (P := P) (g := g) (w := w) (t := t) hb hc
          exact ⟨rfl, v', go _ h1, h2⟩
        · cases h
      · cases h
  · rename_i m n e1 e2
    rw [e1] at hx; rw [e2] at hy
    have ex : ρv x = .string m := hx
    have ey : ρv y = .string n := hy
    split at h
    · rename_i v c hb
      cases h
      obtain ⟨v', h1, h2⟩ := run_binS (P := P) (g := g) (w := w) (t := t) hb hc
      refine ⟨rfl, v', ?_, h2⟩
      rw [execOp, hop]; simp [ex, ey, eqGuard_str, h1]
    · cases h
  · cases h
theorem binK_some {op : BinOp} {y : Operand} {X Y : A} {r : Rs} (h : binK y Y (binV op X Y) = some r) (hc : ∀ c ∈ r.cond, c = true) : ∃ r', binV op X Y = some r' ∧ r'.val = r.val ∧ r'.wr = r.wr ∧ ∀ c ∈ r'.cond, c = true := by
  unfold binK at h
  split at h
  · rename_i k n kk b
    split at h
    · rename_i r0 hd hr0
      cases h
      refine ⟨r0, hr0, rfl, rfl, ?_⟩
      have hb : b = Int.ofNat (n + 1) := of_decide_eq_true hd
      have hb0 : b ≠ 0 := by rw [hb]; intro h0; cases h0
      have hb1 : (0 : Int) ≤ b := by rw [hb]; exact Int.natCast_nonneg _
      intro c hcm
      unfold binV at hr0
      split at hr0
      · rename_i k1 m1 k2 n1 q2
        cases q2
        split at hr0
        · cases hr0; simp at hcm; subst hcm; simpa using hb1
        · cases hr0; simp at hcm; subst hcm; simpa using hb1
        · split at hr0
          · split at hr0
            · rename_i v c0 hbi
              cases hr0
              unfold binI at hbi
              split at hbi <;> simp only [Option.some.injEq, Prod.mk.injEq, reduceCtorEq] at hbi <;> obtain ⟨_, rfl⟩ := hbi <;> simp at hcm
              · subst hcm; simpa using hb0
              · subst hcm; simpa using hb0
            · cases hr0
          · cases hr0
      · rename_i q2; cases q2
      · cases hr0
    · exact ⟨r, h, rfl, rfl, hc⟩
  · exact ⟨r, h, rfl, rfl, hc⟩
theorem p_binOp {op : BinOp} {t u : TypeId} {x y : Operand} {r : Rs} (hop : o.op = .binOp op t x y u) (hx : RepA g w (ρ x) (ρv x)) (hy : RepA g w (ρ y) (ρv y)) (h : aopV P mem ρ dst (.binOp op t x y u) = some r) (hc : ∀ c ∈ r.cond, c = true) : r.wr = none ∧ Pure P g w ρv o r.val := by
  simp only [aopV] at h
  split at h
  · rename_i m n e1 e2
    rw [e1] at hx; rw [e2] at hy
    exact p_eqV hop hx hy (.inl ⟨m, n, rfl, rfl⟩) h
  · rename_i m n e1 e2
    rw [e1] at hx; rw [e2] at hy
    exact p_eqV hop hx hy (.inr ⟨m, n, rfl, rfl⟩) h
  · obtain ⟨r', h1, h2, h3, h4⟩ := binK_some h hc
    rw [← h2, ← h3]
    exact p_binV hop hx hy h1 h4
end Go.Ab
