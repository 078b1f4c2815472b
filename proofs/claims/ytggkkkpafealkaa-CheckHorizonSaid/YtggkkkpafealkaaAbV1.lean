/- A run without unknowns, reckoned by the kernel. -/
import Derived.Test.YtggkkkpafealkaaAbK1
namespace Go.Ab
open Go
variable {P : Program}
def allImp : List (List Bool × List Bool) → Bool | [] => true | (a, b) :: l => (!(allB a) || allB b) && allImp l
/-! ### values, reckoned to their ends -/
def forceN {α : Type} (n : Nat) (k : Nat → α) : α := match n with | 0 => k 0 | m + 1 => k (m + 1)
def forceI {α : Type} (n : Int) (k : Int → α) : α := match n with | .ofNat m => forceN m fun m => k (.ofNat m) | .negSucc m => forceN m fun m => k (.negSucc m)
def forceBo {α : Type} (b : Bool) (k : Bool → α) : α := match b with | true => k true | false => k false
def forceK {α : Type} (n : IntKind) (k : IntKind → α) : α := match n with | .i8 => k .i8 | .i16 => k .i16 | .i32 => k .i32 | .i64 => k .i64 | .u8 => k .u8 | .u16 => k .u16 | .u32 => k .u32 | .u64 => k .u64
def forceL {α β : Type} (f : α → (α → β) → β) : List α → (List α → β) → β
  | [], k => k []
  | x :: xs, k => f x fun y => forceL f xs fun ys => k (y :: ys)
def forceDc {α : Type} (d : D) (k : D → α) : α :=
  match d with
  | .int kk n => forceK kk fun kk => forceI n fun n => k (.int kk n)
  | .bool b => forceBo b fun b => k (.bool b)
  | .sl n sz f => forceN n fun n => forceN sz fun sz => k (.sl n sz f)
  | .str s => k (.str s)
  | .nil => k .nil
  | .nilp => k .nilp
def forceA {α : Type} (a : A) (k : A → α) : α :=
  match a with
  | .d x => forceDc x fun x => k (.d x)
  | .agg cs => forceL forceDc cs fun cs => k (.agg cs)
  | .own n sz f t => forceN n fun n => forceN sz fun sz => k (.own n sz f t)
  | .ptr b o => forceN b fun b => forceN o fun o => k (.ptr b o)
  | a => k a
def forceM {α : Type} (m : M) (k : M → α) : α := match m with | .box cs => forceL forceA cs fun cs => k (.box cs) | .chain u => forceN u fun u => k (.chain u)
theorem forceN_eq {α : Type} (n : Nat) (k : Nat → α) : forceN n k = k n := by cases n <;> rfl
theorem forceI_eq {α : Type} (n : Int) (k : Int → α) : forceI n k = k n := by cases n <;> simp only [forceI, forceN_eq]
theorem forceBo_eq {α : Type} (n : Bool) (k : Bool → α) : forceBo n k = k n := by cases n <;> rfl
theorem forceK_eq {α : Type} (n : IntKind) (k : IntKind → α) : forceK n k = k n := by cases n <;> rfl
theorem forceL_eq {α β : Type} {f : α → (α → β) → β} (hf : ∀ x k, f x k = k x) : ∀ (l : List α) (k : List α → β), forceL f l k = k l
  | [], _ => rfl
  | x :: xs, k => by rw [forceL, hf, forceL_eq hf xs]
theorem forceDc_eq {α : Type} (d : D) (k : D → α) : forceDc d k = k d := by
  cases d <;> simp only [forceDc, forceK_eq, forceI_eq, forceBo_eq, forceN_eq]
theorem forceA_eq {α : Type} (a : A) (k : A → α) : forceA a k = k a := by
  cases a <;> simp only [forceA, forceDc_eq, forceN_eq]
  rw [forceL_eq forceDc_eq]
theorem forceM_eq {α : Type} (m : M) (k : M → α) : forceM m k = k m := by
  cases m <;> simp only [forceM, forceN_eq]
  rw [forceL_eq forceA_eq]
/-! ### what is kept at a loop's head -/
def allocsOf : Code → List Nat
  | .region _ ops _ => ops.toList.filterMap fun o => match o.op with | .alloc _ => o.dst | .box _ _ => o.dst | _ => none
  | .seq a b => allocsOf a ++ allocsOf b
  | .cond _ a b => allocsOf a ++ allocsOf b
  | .block _ c => allocsOf c
  | .loop c => allocsOf c
  | _ => []
def keepM {α : Type} (st : St) (no : List Nat) : List Nat → (List (Nat × M) → α) → α
  | [], k => k []
  | i :: is, k =>
    match no.elem i, st.mem i with
    | false, some m => forceM m fun m => keepM st no is fun l => k ((i, m) :: l)
    | _, _ => keepM st no is k
def keepS {α : Type} (st : St) (ks : List Nat) : List Nat → (List (Nat × A) → α) → α
  | [], k => k []
  | i :: is, k =>
    match st.sl i with
    | .undef => keepS st ks is k
    | .opt _ _ => keepS st ks is k
    | a => match refsOk ks a with | true => forceA a fun a => keepS st ks is fun l => k ((i, a) :: l) | false => keepS st ks is k
theorem keepM_eq {α : Type} (st : St) (no : List Nat) : ∀ (is : List Nat) (k : List (Nat × M) → α), ∃ l, keepM st no is k = k l ∧ pickMem st l = l.map (fun p : Nat × M => some p.2)
  | [], k => ⟨[], rfl, rfl⟩
  | i :: is, k => by
    unfold keepM
    split
    · rename_i m _ hm
      obtain ⟨l, h1, h2⟩ := keepM_eq st no is fun l => k ((i, m) :: l)
      exact ⟨(i, m) :: l, by rw [forceM_eq, h1], by simp only [pickMem, List.map_cons, hm, h2]⟩
    · exact keepM_eq st no is k
theorem keepS_eq {α : Type} (st : St) (ks : List Nat) : ∀ (is : List Nat) (k : List (Nat × A) → α), ∃ l, keepS st ks is k = k l ∧ pickSl st l = l.map (fun p : Nat × A => p.2) ∧ slOk ks l = true
  | [], k => ⟨[], rfl, rfl, rfl⟩
  | i :: is, k => by
    unfold keepS
    split
    · exact keepS_eq st ks is k
    · exact keepS_eq st ks is k
    · split
      · rename_i hr
        obtain ⟨l, h1, h2, h3⟩ := keepS_eq st ks is fun l => k ((i, st.sl i) :: l)
        exact ⟨(i, st.sl i) :: l, by rw [forceA_eq, h1], by simp only [pickSl, List.map_cons, h2], by simp only [slOk, hr, h3, Bool.and_self]⟩
      · exact keepS_eq st ks is k
def normK {α : Type} (c : Code) (st : St) (k : Option St → α) : α :=
  keepM st (allocsOf c) (List.range st.nt ++ [pk 0, pk 1, pk 2]) fun ms =>
    match memOk (ms.map Prod.fst) ms with
    | true => keepS st (ms.map Prod.fst) (List.range st.nt) fun l => k (some (mkSt st.nt l ms))
    | false => k none
theorem normK_eq {α : Type} (c : Code) (st : St) (k : Option St → α) : ∃ o, normK c st k = k o ∧ ∀ s, o = some s → St.le st s := by
  obtain ⟨ms, h1, h2⟩ := keepM_eq st (allocsOf c) (List.range st.nt ++ [pk 0, pk 1, pk 2]) fun ms : List (Nat × M) =>
    match memOk (ms.map Prod.fst) ms with
    | true => keepS st (ms.map Prod.fst) (List.range st.nt) fun l => k (some (mkSt st.nt l ms))
    | false => k none
  cases hm : memOk (ms.map Prod.fst) ms with
  | false => exact ⟨none, by unfold normK; rw [h1, hm], fun s h => by cases h⟩
  | true =>
    obtain ⟨l, h3, h4, h5⟩ := keepS_eq st (ms.map Prod.fst) (List.range st.nt) fun l => k (some (mkSt st.nt l ms))
    exact ⟨_, by unfold normK; rw [h1, hm]; exact h3, fun s h => by cases h; exact le_mk (by rw [h4, h2, h5, hm]; rfl)⟩
/-! ### the reckoning -/
def evT (P : Program) : Nat → T → Option (Ex × St)
  | 0, _ => none
  | n + 1, t =>
    match t with
    | .fail => none
    | .done e st => some (e, st)
    | .br b t u => (match b with | true => evT P n t | false => evT P n u)
    | .need c t => (match c with | true => evT P n t | false => none)
    | .imps l t => (match allImp l with | true => evT P n t | false => none)
    | .call f as bs k =>
      match P.funcs[f]? with
      | some fn =>
        match fn.body, fn.name == "runtime.NumGoroutine", Nat.ble as.length fn.ntmps with
        | some body, false, true =>
          forceL forceA as fun as => forceL (forceL forceDc) bs fun bs =>
          match evT P n (ex P body (initSt fn.ntmps as bs)) with
          | some (e, st) => (match fin P fn bs.length e st with | some (r, bs') => evT P n (k r bs') | none => none)
          | none => none
        | _, _, _ => none
      | none => none
    | .callG gs f as k =>
      match allB gs with
      | false =>
        match evT P n (k (.d (.bool false))) with
        | some x => some x
        | none => match evT P n (k (.d (.int .i64 0))) with | some x => some x | none => evT P n (k .undef)
      | true =>
        match P.funcs[f]? with
        | some fn =>
          match fn.body, fn.name == "runtime.NumGoroutine", Nat.ble as.length fn.ntmps with
          | some body, false, true =>
            forceL forceA as fun as =>
            match evT P n (ex P body (initSt fn.ntmps as [])) with
            | some (e, st) => (match fin P fn 0 e st with | some (r, []) => evT P n (k r) | _ => none)
            | none => none
          | _, _, _ => none
        | none => none
    | .loop c st k =>
      normK c st fun o =>
      match o with
      | none => none
      | some st =>
        match evT P n (ex P c st) with
        | some (.normal, st1) => evT P n (.loop c st1 k)
        | some (e, st1) => evT P n (k e st1)
        | none => none
    | .cut t k => match evT P n t with | some (e, st1) => evT P n (k e st1) | none => none
def evF (P : Program) (n : Nat) (f : Nat) (as : List A) (bs : List (List D)) : Option (A × List (List D)) :=
  match P.funcs[f]? with
  | some fn =>
    match fn.body, fn.name == "runtime.NumGoroutine", Nat.ble as.length fn.ntmps with
    | some body, false, true =>
      match evT P n (ex P body (initSt fn.ntmps as bs)) with
      | some (e, st) => fin P fn bs.length e st
      | none => none
    | _, _, _ => none
  | none => none
theorem allImp_ok : ∀ {l : List (List Bool × List Bool)}, allImp l = true → ImpsOk l
  | [], _ => fun _ h => by cases h
  | (x, y) :: l, h => by
    simp only [allImp, Bool.and_eq_true, Bool.or_eq_true, Bool.not_eq_true'] at h
    intro p hp hx
    rcases List.mem_cons.1 hp with rfl | hp
    · rcases h.1 with h1 | h1
      · rw [h1] at hx; cases hx
      · exact h1
    · exact allImp_ok h.2 p hp hx
theorem evT_run : ∀ (n : Nat) (t : T) (e : Ex) (st : St), evT P n t = some (e, st) → RunT P (Runs P) t e st
  | 0, _, _, _, h => by cases h
  | n + 1, t, e, st, h => by
    unfold evT at h
    split at h
    · cases h
    · cases h; exact .done
    · rename_i b t u; cases b with
      | true => exact .brT rfl (evT_run n _ _ _ h)
      | false => exact .brF rfl (evT_run n _ _ _ h)
    · rename_i c t; cases c with
      | true => exact .need rfl (evT_run n _ _ _ h)
      | false => cases h
    · rename_i l t; cases hl : allImp l with
      | true => rw [hl] at h; exact .imps (allImp_ok hl) (evT_run n _ _ _ h)
      | false => rw [hl] at h; cases h
    · rename_i f as bs k
      split at h
      · rename_i fn hfn
        split at h
        · rename_i body hb hname hle
          simp only [forceL_eq forceA_eq, forceL_eq (forceL_eq forceDc_eq)] at h
          split at h
          · rename_i e1 st1 h1
            split at h
            · rename_i r bs' h2
              exact .call (Runs.mk hfn hb hname (Nat.le_of_ble_eq_true hle) (evT_run n _ _ _ h1) h2) (evT_run n _ _ _ h)
            · cases h
          · cases h
        · cases h
      · cases h
    · rename_i gs f as k
      split at h
      · rename_i hg
        have ne : allB gs = true → False := fun hg' => by rw [hg] at hg'; cases hg'
        split at h
        · rename_i x h1; cases h; exact .callG (fun hg' => (ne hg').elim) (evT_run n _ _ _ h1)
        · split at h
          · rename_i x h1; cases h; exact .callG (fun hg' => (ne hg').elim) (evT_run n _ _ _ h1)
          · exact .callG (fun hg' => (ne hg').elim) (evT_run n _ _ _ h)
      · split at h
        · rename_i fn hfn
          split at h
          · rename_i body hb hname hle
            simp only [forceL_eq forceA_eq] at h
            split at h
            · rename_i e1 st1 h1
              split at h
              · rename_i r h2
                exact .callG (fun _ => Runs.mk hfn hb hname (Nat.le_of_ble_eq_true hle) (evT_run n _ _ _ h1) h2) (evT_run n _ _ _ h)
              · cases h
            · cases h
          · cases h
        · cases h
    · rename_i c st0 k
      obtain ⟨o, ho, hle⟩ := normK_eq c st0 fun o =>
        match o with
        | none => none
        | some st =>
          match evT P n (ex P c st) with
          | some (.normal, st1) => evT P n (.loop c st1 k)
          | some (e, st1) => evT P n (k e st1)
          | none => none
      rw [ho] at h
      cases o with
      | none => cases h
      | some s =>
        have hle := hle s rfl
        simp only at h
        split at h
        · rename_i st1 h1; exact .loopN hle (evT_run n _ _ _ h1) (evT_run n _ _ _ h)
        · rename_i e1 st1 hne h1; exact .loopX hle (evT_run n _ _ _ h1) (fun he => by subst he; exact hne rfl) (evT_run n _ _ _ h)
        · cases h
    · rename_i t k
      split at h
      · rename_i e1 st1 h1; exact .cutJ (evT_run n _ _ _ h1) (St.le_refl _) (evT_run n _ _ _ h)
      · cases h
theorem evF_runs {n f : Nat} {as : List A} {bs bs' : List (List D)} {r : A} (h : evF P n f as bs = some (r, bs')) : Runs P f as bs r bs' := by
  unfold evF at h
  split at h
  · rename_i fn hfn
    split at h
    · rename_i body hb hname hle
      split at h
      · rename_i e st h1
        exact Runs.mk hfn hb hname (Nat.le_of_ble_eq_true hle) (evT_run n _ _ _ h1) h
      · cases h
    · cases h
  · cases h
end Go.Ab
