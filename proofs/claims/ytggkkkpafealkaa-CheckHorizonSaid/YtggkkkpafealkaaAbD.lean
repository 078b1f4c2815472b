/- Operations that only compute are sound. -/
import Derived.Test.YtggkkkpafealkaaAbC
import Derived.Laws.Slices
import Derived.Laws.Cells
import Derived.Laws.Rows
import Derived.Laws.StructEq
import Derived.WalkKit
namespace Go.Ab
open Go
variable {P : Program} {E : Env} {g : G} {w : World} {a : Act} {st : St}
theorem ofCell_rep {S : Nat → Nat → Prop} : ∀ {v : Value} {d : D}, ofCell v = some d → RepD w S d v := by
  intro v d h
  unfold ofCell at h
  split at h <;> first | (cases h; rfl) | cases h
theorem ofCells_rep {S : Nat → Nat → Prop} : ∀ {vs : List Value} {ds : List D}, ofCells vs = some ds → RepL (RepD w S) ds vs
  | [], ds, h => by cases h; rfl
  | v :: vs, ds, h => by
    unfold ofCells at h
    split at h
    · rename_i d ds' h1 h2; cases h; exact ⟨v, vs, rfl, ofCell_rep h1, ofCells_rep h2⟩
    · cases h
theorem ofVal_rep (v : Value) : RepA g w (ofVal v) v := by
  unfold ofVal
  split
  · split
    · rename_i h; exact ⟨_, rfl, ofCells_rep h⟩
    · trivial
  · split
    · rename_i h; exact ofCell_rep h
    · trivial
theorem ev_rep (h : RepG E g w a st) (x : Operand) : RepA g w (st.ev x) (a.eval x) := by
  cases x with
  | tmp t => exact h.sl t
  | const v => exact ofVal_rep v
  | global k => trivial
  | func f => exact ⟨#[], rfl, rfl⟩
theorem RepD.one {S : Nat → Nat → Prop} {x : D} {v : Value} (h : RepD w S x v) : v.oneCell' = true := by
  cases x with
  | sl n sz f => rcases h with ⟨_, rfl⟩ | ⟨b, off, cap, rfl, _⟩ <;> rfl
  | _ => cases h; rfl
theorem toD_rep {x : A} {d : D} {v : Value} (h : toD x = some d) (hr : RepA g w x v) : RepD w g.S d v := by
  cases x <;> first | (simp [toD] at h; done) | (simp only [toD, Option.some.injEq] at h; subst h)
  · exact hr
  · exact hr.2.2.1
theorem toDs_rep : ∀ {l : List A} {ds : List D} {vs : List Value}, toDs l = some ds → RepL (RepA g w) l vs → RepL (RepD w g.S) ds vs
  | [], ds, vs, h, hr => by cases h; exact hr
  | x :: l, ds, vs, h, hr => by
    unfold toDs at h
    split at h
    · rename_i d ds' h1 h2
      cases h
      obtain ⟨v, r, e, h3, h4⟩ := hr
      exact ⟨v, r, e, toD_rep h1 h3, toDs_rep h2 h4⟩
    · cases h
/-- the cells of a value -/
theorem cellsOf_rep {x : A} {cs : List A} {v : Value} (h : cellsOf x = some cs) (hr : RepA g w x v) : RepL (RepA g w) cs v.cells.toList ∧ ∀ u ∈ v.cells.toList, u.oneCell' = true := by
  cases x <;> first | (simp [cellsOf] at h; done) | (simp only [cellsOf, Option.some.injEq] at h; subst h)
  case d x => exact ⟨by cases x <;> first | (cases hr; exact ⟨_, [], rfl, rfl, rfl⟩) | (rcases hr with ⟨h0, rfl⟩ | ⟨b, off, cap, rfl, hh⟩ <;> exact ⟨_, [], rfl, (by first | exact .inl ⟨h0, rfl⟩ | exact .inr ⟨b, off, cap, rfl, hh⟩), rfl⟩), by
    have := RepD.one hr
    have e : v.cells = #[v] := by cases v <;> first | rfl | (simp [Value.oneCell'] at this)
    intro u hu; rw [e] at hu; simp at hu; subst hu; exact this⟩
  case agg cs =>
    obtain ⟨vs, rfl, hr⟩ := hr
    refine ⟨RepL.map (f := A.d) (R' := RepA g w) (fun _ _ h => h) hr, fun u hu => ?_⟩
    obtain ⟨i, hi, rfl⟩ := List.getElem_of_mem hu
    have hl := hr.length
    have hi' : i < vs.toList.length := hi
    obtain ⟨v, hv, hd⟩ := RepL.get hr (i := i) (x := cs[i]'(by omega)) (by simp)
    have : vs.toList[i]? = some (vs.toList[i]) := by simp
    rw [this] at hv; cases hv
    exact RepD.one hd
  case ptr k off => obtain ⟨rfl, h⟩ := hr; exact ⟨⟨_, [], rfl, ⟨rfl, h⟩, rfl⟩, by simp [Value.cells, Value.oneCell']⟩
  case own n sz f t =>
    have h1 := RepD.one hr.2.2.1
    have e : v.cells = #[v] := by cases v <;> first | rfl | (simp [Value.oneCell'] at h1)
    rw [e]; exact ⟨⟨_, [], rfl, hr, rfl⟩, by simp [h1]⟩
  case fn f caps => obtain ⟨vs, rfl, h⟩ := hr; exact ⟨⟨_, [], rfl, ⟨vs, rfl, h⟩, rfl⟩, by simp [Value.cells, Value.oneCell']⟩
theorem dataOf_rep {x : A} {cs : List D} {v : Value} (h : dataOf x = some cs) (hr : RepA g w x v) : RepL (RepD w g.S) cs v.cells.toList := by
  cases x <;> first | (simp [dataOf] at h; done) | (simp only [dataOf, Option.some.injEq] at h; subst h)
  case d x =>
    have h1 := RepD.one hr
    have e : v.cells = #[v] := by cases v <;> first | rfl | (simp [Value.oneCell'] at h1)
    rw [e]; exact ⟨_, [], rfl, hr, rfl⟩
  case agg cs => obtain ⟨vs, rfl, hr⟩ := hr; exact hr
  case own n sz f t =>
    have h1 := RepD.one hr.2.2.1
    have e : v.cells = #[v] := by cases v <;> first | rfl | (simp [Value.oneCell'] at h1)
    rw [e]; exact ⟨_, [], rfl, hr.2.2.1, rfl⟩
theorem strip_rep {x : A} {v : Value} (h : allB (gOf x) = true) (hr : RepA g w x v) : RepA g w (strip x) v := by
  cases x <;> try exact hr
  case opt b a => exact hr.1 h
theorem ofV_rep {x : V} {v : Value} (h : RepV w g.S x v) : RepA g w (ofV x) v := by cases x <;> exact h
theorem rowsOf_rep {x : A} {n sz : Nat} {f : Nat → Nat → D} {v : Value} (h : rowsOf x = some (n, sz, f)) (hr : RepA g w x v) : RepD w g.S (.sl n sz f) v := by
  cases x <;> first | (simp [rowsOf] at h; done) | skip
  case d x =>
    cases x <;> simp only [rowsOf, Option.some.injEq, Prod.mk.injEq, reduceCtorEq] at h
    · obtain ⟨rfl, rfl, rfl⟩ := h; exact .inl ⟨rfl, hr⟩
    · obtain ⟨rfl, rfl, rfl⟩ := h; exact hr
  case own n' sz' f' t => simp only [rowsOf, Option.some.injEq, Prod.mk.injEq] at h; obtain ⟨rfl, rfl, rfl⟩ := h; exact hr.2.2.1
end Go.Ab
