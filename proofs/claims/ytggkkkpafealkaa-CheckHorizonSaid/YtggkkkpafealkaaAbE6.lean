/- Each operation is sound: all of them. -/
import Derived.Test.YtggkkkpafealkaaAbE5
namespace Go.Ab
open Go
variable {P : Program} {E : Env} {g : G} {w : World} {a : Act} {st : St} {ρ : Operand → A} {ρv : Operand → Value} {dst : Option Nat} {o : Oper}
theorem aopV_ok {op : Op} {r : Rs} (hop : o.op = op) (hx : ∀ x ∈ op.operands.toList, RepA g w (ρ x) (ρv x)) (hr : RepG E g w a st) (h : aopV P st.mem ρ dst op = some r) (hc : ∀ b ∈ r.cond, b = true) : MemOk P E g w a st ρv o r := by
  cases op <;> (try (simp [aopV] at h; done))
  case move x => cases h; exact .of_pure hr ⟨rfl, p_move hop (hx x (by simp [Op.operands]))⟩
  case assign x => cases h; exact .of_pure hr ⟨rfl, p_assign hop (hx x (by simp [Op.operands]))⟩
  case alloc t => exact m_alloc hop hr h
  case box t x => exact m_box hop (hx x (by simp [Op.operands])) hr h
  case build t ps => exact .of_pure hr (p_build hop (fun x h => hx x (by simpa [Op.operands] using h)) h)
  case buildSlice t n ps => exact m_buildSlice hop (fun x h => hx x (by simpa [Op.operands] using h)) hr h
  case load t x => exact .of_pure hr (p_load hop rfl hr (hx x (by simp [Op.operands])) h)
  case store t x y => exact m_store hop (hx x (by simp [Op.operands])) (hx y (by simp [Op.operands])) hr h
  case nilCheck x => exact .of_pure hr (p_nilCheck hop (hx x (by simp [Op.operands])) h)
  case binOp op t x y u => exact .of_pure hr (p_binOp hop (hx x (by simp [Op.operands])) (hx y (by simp [Op.operands])) h hc)
  case unOp op t x => exact .of_pure hr (p_unOp hop (hx x (by simp [Op.operands])) h)
  case convert s t x => exact .of_pure hr (p_convert hop (hx x (by simp [Op.operands])) h)
  case slice t x lo hi mx => exact .of_pure hr (p_slice hop (hx x (by simp [Op.operands])) (fun y e => hx y (by simp [Op.operands, e])) (fun y e => hx y (by simp [Op.operands, e])) h hc)
  case fieldAddr t x f => exact .of_pure hr (p_fieldAddr hop (hx x (by simp [Op.operands])) h)
  case field t x f => exact .of_pure hr (p_field hop (hx x (by simp [Op.operands])) h)
  case indexAddr t x i => exact .of_pure hr (p_indexAddr hop (hx x (by simp [Op.operands])) (hx i (by simp [Op.operands])) h hc)
  case index t x i => exact .of_pure hr (p_index hop (hx x (by simp [Op.operands])) (hx i (by simp [Op.operands])) h hc)
  case makeFunc fn fs cs => exact .of_pure hr (p_makeFunc hop (fun x hm => hx x (by simp only [Op.operands, Array.toList_append, List.mem_append]; exact .inr hm)) h)
  case extract x i => exact .of_pure hr (p_extract hop (hx x (by simp [Op.operands])) h)
  case call c =>
    have h' := h
    simp only [aopV] at h
    have hop' : ∀ x ∈ c.args.toList, RepA g w (ρ x) (ρv x) := fun x hm => hx x (by simp only [Op.operands, Call.operands, Array.toList_append, List.mem_append]; exact .inr hm)
    split at h <;> (try contradiction)
    · rename_i x t h0 h1 h2; exact .of_pure hr (p_len hop h0 h1 h2 (hop' x (by rw [h1]; simp)) h')
    · rename_i x y h0 h1; exact .of_pure hr (p_max hop h0 h1 (hop' x (by rw [h1]; simp)) (hop' y (by rw [h1]; simp)) h')
    · rename_i x y h0 h1; exact .of_pure hr (p_min hop h0 h1 (hop' x (by rw [h1]; simp)) (hop' y (by rw [h1]; simp)) h')
    · rename_i s x t t' h0 h1 h2; exact m_append hop h0 h1 h2 (hop' s (by rw [h1]; simp)) (hop' x (by rw [h1]; simp)) hr h' hc
def ImpsOk (l : List (List Bool × List Bool)) : Prop := ∀ p ∈ l, allB p.1 = true → allB p.2 = true
theorem impOf_ok {gs : List Bool} {x : A} (h : ImpsOk (impOf gs x)) (hg : allB gs = true) : allB (gOf x) = true := by
  unfold impOf at h
  split at h
  · rename_i e; rw [e]; rfl
  · rename_i g l e; rw [e]; exact h _ List.mem_cons_self hg
theorem gOfs_ok {gs : List Bool} : ∀ {l : List Operand} {x : Operand}, ImpsOk (gOfs st gs l) → x ∈ l → allB gs = true → allB (gOf (st.ev x)) = true
  | y :: l, x, h, hx, hg => by
    rcases List.mem_cons.1 hx with rfl | hx
    · exact impOf_ok (fun p hp => h p (List.mem_append_left _ hp)) hg
    · exact gOfs_ok (fun p hp => h p (List.mem_append_right _ hp)) hx hg
theorem guardAll_ok {gs cs : List Bool} (h : ∀ b ∈ guardAll gs cs, b = true) (hg : allB gs = true) : ∀ b ∈ cs, b = true := by
  intro b hb
  unfold guardAll at h
  split at h
  · exact h b hb
  · have := h _ (List.mem_map.2 ⟨b, hb, rfl⟩)
    rw [hg] at this; simpa using this
theorem pickV_rep {bc : Bool} {x y v : A} {ux uy : Value} (h : pickV bc x y = some v) (hx : bc = true → RepA g w x ux) (hy : bc = false → RepA g w y uy) : RepA g w v (if bc then ux else uy) := by
  unfold pickV at h
  split at h
  · cases h; cases bc <;> first | exact hx rfl | exact hy rfl
  · split at h
    · rename_i hk
      obtain rfl := of_decide_eq_true hk
      cases h; cases bc <;> first | exact hx rfl | exact hy rfl
    · cases h
  · cases h; cases bc <;> first | exact hx rfl | exact hy rfl
  · cases h
theorem pickO_rep {x y : Operand} {bc : Bool} {X Y v : A} {ux uy : Value} (h : pickO x y bc X Y = some v) (hx : bc = true → RepA g w X ux) (hy : bc = false → RepA g w Y uy) : RepA g w v (if bc then ux else uy) := by
  unfold pickO at h
  split at h
  · cases h; cases bc <;> first | exact hx rfl | exact hy rfl
  · cases h; cases bc <;> first | exact hx rfl | exact hy rfl
  · exact pickV_rep h hx hy
theorem aopS_ok {r : Rs} {gs : List Bool} (hr : RepG E g w a st) (h : aopS P st gs o.dst o.op = some r) (hg : allB gs = true) (hc : ∀ b ∈ r.cond, b = true) (hi : ImpsOk r.imps) : MemOk P E g w a st a.eval o r := by
  unfold aopS at h
  split at h
  · rename_i c x y hp
    have hop : o.op = .pick c x y := by unfold isPick at hp; split at hp <;> cases hp; assumption
    split at h
    · rename_i bc hbc
      split at h
      · rename_i hsk
        cases h
        have hc1 := impOf_ok (fun p hp => hi p (List.mem_append_left _ hp)) hg
        have hb : bc = false := by simpa using guardAll_ok hc hg (!bc) (by simp)
        have hc3 := impOf_ok (gs := (!bc) :: gOf (st.ev c)) (fun p hp => hi p (List.mem_append_right _ hp)) (by simp [allB, hb, hc1])
        have hcv := strip_rep hc1 (ev_rep hr c)
        rw [hbc] at hcv
        have ec : a.eval c = .bool bc := hcv
        refine .of_pure hr ⟨rfl, a.eval y, ?_, strip_rep hc3 (ev_rep hr y)⟩
        rw [execOp, hop]; simp [ec, asBool, hb]
      · cases h
        have hc1 := impOf_ok (fun p hp => hi p (List.mem_append_left _ hp)) hg
        have hb : bc = true := guardAll_ok hc hg bc (by simp)
        have hc3 := impOf_ok (gs := bc :: gOf (st.ev c)) (fun p hp => hi p (List.mem_append_right _ hp)) (by simp [allB, hb, hc1])
        have hcv := strip_rep hc1 (ev_rep hr c)
        rw [hbc] at hcv
        have ec : a.eval c = .bool bc := hcv
        refine .of_pure hr ⟨rfl, a.eval x, ?_, strip_rep hc3 (ev_rep hr x)⟩
        rw [execOp, hop]; simp [ec, asBool, hb]
      split at h
      · rename_i v hv
        cases h
        have hc1 := impOf_ok (fun p hp => hi p (List.mem_append_left _ hp)) hg
        have hc2 : bc = true → allB (gOf (st.ev x)) = true := fun hb => impOf_ok (gs := bc :: gOf (st.ev c)) (fun p hp => hi p (List.mem_append_right _ (List.mem_append_left _ hp))) (by simp [allB, hb, hc1])
        have hc3 : bc = false → allB (gOf (st.ev y)) = true := fun hb => impOf_ok (gs := (!bc) :: gOf (st.ev c)) (fun p hp => hi p (List.mem_append_right _ (List.mem_append_right _ hp))) (by simp [allB, hb, hc1])
        have hcv := strip_rep hc1 (ev_rep hr c)
        rw [hbc] at hcv
        have ec : a.eval c = .bool bc := hcv
        refine .of_pure hr ⟨rfl, _, ?_, pickO_rep hv (fun hb => strip_rep (hc2 hb) (ev_rep hr x)) (fun hb => strip_rep (hc3 hb) (ev_rep hr y))⟩
        rw [execOp, hop]; simp [ec, asBool]
      · cases h
    · cases h
  · split at h
    · rename_i r' hv
      cases h
      have := aopV_ok (P := P) (E := E) (g := g) (w := w) (a := a) (ρv := a.eval) (o := o) (r := r') rfl (fun x hx => strip_rep (gOfs_ok hi hx hg) (ev_rep hr x)) hr hv (guardAll_ok hc hg)
      exact this
    · cases h
end Go.Ab
