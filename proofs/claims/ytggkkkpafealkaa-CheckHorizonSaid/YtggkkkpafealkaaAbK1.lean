/- How a run is shown: by steps, each of which the kernel reckons. -/
import Derived.Test.YtggkkkpafealkaaAbH5
import Derived.KernelRfl
namespace Go.Ab
open Go
variable {P : Program} {Φ : Calls'} {t : T} {K K' : Ex → St → Prop}
/-- the tree runs, and ends so -/
def Goes' (P : Program) (t : T) (K : Ex → St → Prop) : Prop := ∃ e st, RunT P (Runs P) t e st ∧ K e st
def T.isDone : T → Bool | .done _ _ => true | _ => false
def T.dE : T → Ex | .done e _ => e | _ => .ret
def T.dS : T → St | .done _ s => s | _ => ⟨0, fun _ => .undef, fun _ => none⟩
def T.brB : T → Option Bool | .br b _ _ => some b | _ => none
def T.brT : T → T | .br _ t _ => t | _ => .fail
def T.brE : T → T | .br _ _ u => u | _ => .fail
def T.neB : T → Option Bool | .need c _ => some c | _ => none
def T.neT : T → T | .need _ t => t | _ => .fail
def T.imL : T → List (List Bool × List Bool) | .imps l _ => l | _ => []
def T.isIm : T → Bool | .imps _ _ => true | _ => false
def T.imT : T → T | .imps _ t => t | _ => .fail
def dropTo (xs ys : List Bool) : List Bool := xs.drop (xs.length - ys.length)
def T.caI : T → Option (Nat × List A × List (List D)) | .call f as bs _ => some (f, as, bs) | _ => none
def T.caK : T → A → List (List D) → T | .call _ _ _ k => k | _ => fun _ _ => .fail
def T.cgI : T → Option (List Bool × Nat × List A) | .callG gs f as _ => some (gs, f, as) | _ => none
def T.cgK : T → A → T | .callG _ _ _ k => k | _ => fun _ => .fail
def T.isLo : T → Bool | .loop _ _ _ => true | _ => false
def T.loC : T → Code | .loop c _ _ => c | _ => .skip
def T.loS : T → St | .loop _ s _ => s | _ => ⟨0, fun _ => .undef, fun _ => none⟩
def T.loK : T → Ex → St → T | .loop _ _ k => k | _ => fun _ _ => .fail
def T.isCu : T → Bool | .cut _ _ => true | _ => false
def T.cuT : T → T | .cut t _ => t | _ => .fail
def T.cuK : T → Ex → St → T | .cut _ k => k | _ => fun _ _ => .fail
/-- a cut's test, where it is one -/
def T.cbB : T → Option Bool | .cut (.br b _ _) _ => some b | _ => none
def T.cbT : T → T | .cut (.br _ t _) k => t.bind k | _ => .fail
def T.cbE : T → T | .cut (.br _ _ u) k => u.bind k | _ => .fail
theorem g_done (h : t.isDone = true) (k : K t.dE t.dS) : Goes' P t K := by
  cases t <;> first | (cases h; done) | exact ⟨_, _, .done, k⟩
theorem g_br {b : Bool} (h : t.brB = some b) (h1 : b = true → Goes' P t.brT K) (h2 : b = false → Goes' P t.brE K) : Goes' P t K := by
  cases t <;> first | (cases h; done) | skip
  case br c x y =>
    cases h
    cases b with
    | true => obtain ⟨e, s, q, k⟩ := h1 rfl; exact ⟨e, s, .brT rfl q, k⟩
    | false => obtain ⟨e, s, q, k⟩ := h2 rfl; exact ⟨e, s, .brF rfl q, k⟩
theorem g_cbr {b : Bool} (h : t.cbB = some b) (h1 : b = true → Goes' P t.cbT K) (h2 : b = false → Goes' P t.cbE K) : Goes' P t K := by
  cases t <;> first | (cases h; done) | skip
  case cut x k0 =>
    cases x <;> first | (cases h; done) | skip
    case br c y z =>
      cases h
      cases b with
      | true => obtain ⟨e, s, q, k⟩ := h1 rfl; exact ⟨e, s, .cutT rfl q, k⟩
      | false => obtain ⟨e, s, q, k⟩ := h2 rfl; exact ⟨e, s, .cutF rfl q, k⟩
theorem g_need {c : Bool} (h : t.neB = some c) (hc : c = true) (h1 : Goes' P t.neT K) : Goes' P t K := by
  cases t <;> first | (cases h; done) | skip
  case need d x => cases h; obtain ⟨e, s, q, k⟩ := h1; exact ⟨e, s, .need hc q, k⟩
theorem allB_drop : ∀ (n : Nat) {l : List Bool}, allB l = true → allB (l.drop n) = true
  | 0, _, h => h
  | n + 1, [], _ => rfl
  | n + 1, b :: l, h => by simp only [allB, Bool.and_eq_true] at h; exact allB_drop n h.2
/-- what is owed for guards: each one is an end of the one that it must follow from -/
theorem g_imps (h : (t.isIm, t.imL.map (·.2)) = (true, t.imL.map fun p => dropTo p.1 p.2)) (h1 : Goes' P t.imT K) : Goes' P t K := by
  simp only [Prod.mk.injEq] at h
  obtain ⟨h, h2⟩ := h
  cases t <;> first | (cases h; done) | skip
  case imps l x =>
    obtain ⟨e, s, q, k⟩ := h1
    refine ⟨e, s, .imps (fun p hp hb => ?_) q, k⟩
    have : ∀ (l : List (List Bool × List Bool)), (l.map (·.2)) = (l.map fun p => dropTo p.1 p.2) → ∀ p ∈ l, p.2 = dropTo p.1 p.2 := by
      intro l
      induction l with
      | nil => intro _ p hp; cases hp
      | cons q l ih =>
        intro h p hp
        simp only [List.map_cons, List.cons.injEq] at h
        rcases List.mem_cons.1 hp with rfl | hp
        · exact h.1
        · exact ih h.2 p hp
    rw [this l h2 p hp]; exact allB_drop _ hb
theorem g_call {f : Nat} {as : List A} {bs bs' : List (List D)} {r : A} (h : t.caI = some (f, as, bs)) (hf : Runs P f as bs r bs') (h1 : Goes' P (t.caK r bs') K) : Goes' P t K := by
  cases t <;> first | (cases h; done) | skip
  case call f' as' bs0 k' => cases h; obtain ⟨e, s, q, k⟩ := h1; exact ⟨e, s, .call hf q, k⟩
theorem g_callG {gs : List Bool} {f : Nat} {as : List A} {r : A} (h : t.cgI = some (gs, f, as)) (hf : allB gs = true → Runs P f as [] r []) (h1 : Goes' P (t.cgK r) K) : Goes' P t K := by
  cases t <;> first | (cases h; done) | skip
  case callG gs' f' as' k' => cases h; obtain ⟨e, s, q, k⟩ := h1; exact ⟨e, s, .callG hf q, k⟩
/-- what a cut's first part comes to is told -/
theorem g_join (h : t.isCu = true) {K1 : Ex → St → Prop} (h1 : Goes' P t.cuT K1) (h2 : ∀ e s, K1 e s → ∃ s', St.le s s' ∧ Goes' P (t.cuK e s') K) : Goes' P t K := by
  cases t <;> first | (cases h; done) | skip
  case cut x k0 =>
    obtain ⟨e, s, q, k1⟩ := h1
    obtain ⟨s', hs, e2, s2, q2, k2⟩ := h2 e s k1
    exact ⟨e2, s2, .cutJ q hs q2, k2⟩
def Ex.isN : Ex → Bool | .normal => true | _ => false
theorem Ex.isN_eq {e : Ex} (h : e.isN = true) : e = .normal := by cases e <;> first | rfl | cases h
/-- a cut whose ways meet again, all in one state -/
theorem g_jn (h : t.isCu = true) (s' : St) (h1 : Goes' P t.cuT fun e s => e.isN = true ∧ St.le s s') (h2 : Goes' P (t.cuK .normal s') K) : Goes' P t K :=
  g_join h h1 fun _ _ ⟨he, hs⟩ => ⟨s', hs, Ex.isN_eq he ▸ h2⟩
theorem Goes'.mono (h : Goes' P t K) (hk : ∀ e s, K e s → K' e s) : Goes' P t K' := by obtain ⟨e, s, q, k⟩ := h; exact ⟨e, s, q, hk e s k⟩
/-- a loop whose state at the round's head is one of a family -/
theorem loop_ind {c : Code} {k : Ex → St → T} {α : Type} (S : α → St) (μ : α → Nat) (I : α → Prop) (Q : α → Ex → St → Prop)
    (round : ∀ x, I x → Goes' P (ex P c (S x)) fun e s => (e = .normal ∧ ∃ y, I y ∧ μ y < μ x ∧ St.le s (S y) ∧ ∀ e s, Q y e s → Q x e s) ∨ (e ≠ .normal ∧ Goes' P (k e s) (Q x))) :
    ∀ x, I x → Goes' P (.loop c (S x) k) (Q x) := by
  have key : ∀ n x, μ x = n → I x → Goes' P (.loop c (S x) k) (Q x) := by
    intro n
    induction n using Nat.strongRecOn with
    | _ n ih =>
      intro x hn hx
      obtain ⟨e, s, q, h⟩ := round x hx
      rcases h with ⟨rfl, y, hy, hlt, hle, hq⟩ | ⟨hne, e2, s2, q2, k2⟩
      · obtain ⟨e2, s2, q2, k2⟩ := ih (μ y) (hn ▸ hlt) y rfl hy
        refine ⟨e2, s2, .loopN (St.le_refl _) q ?_, hq _ _ k2⟩
        generalize hl : T.loop c (S y) k = x at q2
        cases q2 with
        | loopX a1 a2 a3 a4 => cases hl; exact .loopX (fun E w a h => a1 E w a (hle E w a h)) a2 a3 a4
        | loopN a1 a2 a3 => cases hl; exact .loopN (fun E w a h => a1 E w a (hle E w a h)) a2 a3
        | _ => cases hl
      · exact ⟨e2, s2, .loopX (St.le_refl _) q hne q2, k2⟩
  exact fun x hx => key _ x rfl hx
theorem g_loop {α : Type} (h : t.isLo = true) (S : α → St) (μ : α → Nat) (I : α → Prop) (Q : α → Ex → St → Prop) (x : α) (hle : St.le t.loS (S x)) (hx : I x) (hq : ∀ e s, Q x e s → K e s)
    (round : ∀ x, I x → Goes' P (ex P t.loC (S x)) fun e s => (e = .normal ∧ ∃ y, I y ∧ μ y < μ x ∧ St.le s (S y) ∧ ∀ e s, Q y e s → Q x e s) ∨ (e ≠ .normal ∧ Goes' P (t.loK e s) (Q x))) : Goes' P t K := by
  cases t <;> first | (cases h; done) | skip
  case loop c s k =>
    obtain ⟨e, s2, q2, k2⟩ := loop_ind S μ I Q round x hx
    refine ⟨e, s2, ?_, hq _ _ k2⟩
    generalize hl : T.loop c (S x) k = x at q2
    cases q2 with
    | loopX a1 a2 a3 a4 => cases hl; exact .loopX (fun E w a h => a1 E w a (hle E w a h)) a2 a3 a4
    | loopN a1 a2 a3 => cases hl; exact .loopN (fun E w a h => a1 E w a (hle E w a h)) a2 a3
    | _ => cases hl
/-- what a round comes to: round again, from a state of the family; or out of the loop, and on -/
def Rd {α : Type} (P : Program) (S : α → St) (I : α → Prop) (μ : α → Nat) (n : Nat) (k : Ex → St → T) (K : Ex → St → Prop) (e : Ex) (s : St) : Prop :=
  (e = .normal ∧ ∃ y, I y ∧ μ y < n ∧ St.le s (S y)) ∨ (e ≠ .normal ∧ Goes' P (k e s) K)
theorem g_again {α : Type} {S : α → St} {I : α → Prop} {μ : α → Nat} {n : Nat} {k : Ex → St → T} {e : Ex} {s : St} (h : e.isN = true) (y : α) (hi : I y) (hm : μ y < n) (hl : St.le s (S y)) : Rd P S I μ n k K e s :=
  .inl ⟨(by cases e <;> first | rfl | cases h), y, hi, hm, hl⟩
theorem g_leave {α : Type} {S : α → St} {I : α → Prop} {μ : α → Nat} {n : Nat} {k : Ex → St → T} {e : Ex} {s : St} (h : e.isN = false) (h1 : Goes' P (k e s) K) : Rd P S I μ n k K e s :=
  .inr ⟨(fun he => by rw [he] at h; cases h), h1⟩
theorem g_lp {α : Type} (h : t.isLo = true) (S : α → St) (I : α → Prop) (μ : α → Nat) (x : α) (hle : St.le t.loS (S x)) (hx : I x)
    (round : ∀ x, I x → Goes' P (ex P t.loC (S x)) (Rd P S I μ (μ x) t.loK K)) : Goes' P t K :=
  g_loop h S μ I (fun _ => K) x hle hx (fun _ _ h => h) fun x hx => (round x hx).mono fun _ _ h => h.imp (fun ⟨h1, y, h2, h3, h4⟩ => ⟨h1, y, h2, h3, h4, fun _ _ h => h⟩) fun h => h
/-- an empty row, of nothing yet, is one to which something can be appended -/
theorem le_nil {st : St} (k t sz : Nat) (f : Nat → Nat → D) (hk : st.mem k = none) (ht : st.sl t = .d .nil) : St.le st { st with sl := upd st.sl t (.own 0 sz f k), mem := upd st.mem k (some (.chain 0)) } := by
  rintro E w a ⟨g, h⟩
  obtain ⟨g', s1, h1, h2, h3⟩ := zeroChain h hk
  refine ⟨g', h1.df, h1.prb, h1.prc, h1.nt, fun u => ?_, h1.box, h1.chain, h1.inj, h1.ownb, h1.ownc, h1.os, h1.tape, h1.out, h1.size, h1.old, h1.sub, h1.new, h1.bnd, h1.par, h1.pbl⟩
  show RepA g' w (upd st.sl t (.own 0 sz f k) u) _
  by_cases hu : u = t
  · subst hu
    rw [upd_same]
    have h4 : RepA g w (.d .nil) (a.tmps.getD u undef) := ht ▸ h.sl u
    have h5 : a.tmps.getD u undef = .slice none 0 0 := h4
    exact own_of h2 h3.symm (.inl ⟨rfl, h5⟩) (fun _ => h5) (fun h => absurd h (Nat.lt_irrefl 0))
  · rw [upd_other _ _ hu]; exact h1.sl u
/-- the same for one that lies in a box -/
theorem le_nilB {st : St} (k b sz : Nat) (f : Nat → Nat → D) (pre post : List A) (hk : st.mem k = none) (hb : st.mem b = some (.box (pre ++ .d .nil :: post))) : St.le st { st with mem := upd (upd st.mem k (some (.chain 0))) b (some (.box (pre ++ .own 0 sz f k :: post))) } := by
  rintro E w a ⟨g, h⟩
  have hbk : b ≠ k := fun e => by rw [e, hk] at hb; cases hb
  obtain ⟨g', s1, h1, h2, h3⟩ := zeroChain h hk
  have hb1 : (st.set k (.chain 0)).mem b = some (.box (pre ++ .d .nil :: post)) := (upd_other _ _ hbk).trans hb
  have key : ∀ {vs : List Value} {pre : List A}, RepL (RepA g' w) (pre ++ .d .nil :: post) vs → RepL (RepA g' w) (pre ++ .own 0 sz f k :: post) vs := by
    intro vs pre
    induction pre generalizing vs with
    | nil => rintro ⟨v, r, rfl, h4, h5⟩; exact ⟨v, r, rfl, own_of h2 h3.symm (.inl ⟨rfl, h4⟩) (fun _ => h4) (fun h => absurd h (Nat.lt_irrefl 0)), h5⟩
    | cons x xs ih => rintro ⟨v, r, rfl, h4, h5⟩; exact ⟨v, r, rfl, h4, ih h5⟩
  have same : ∀ j m, upd (upd st.mem k (some (.chain 0))) b (some (.box (pre ++ .own 0 sz f k :: post))) j = some m → j ≠ b → (st.set k (.chain 0)).mem j = some m := fun j m hj hne => by rw [upd_other _ _ hne] at hj; exact hj
  have box' : ∀ j cs, upd (upd st.mem k (some (.chain 0))) b (some (.box (pre ++ .own 0 sz f k :: post))) j = some (.box cs) → ∃ cs0, (st.set k (.chain 0)).mem j = some (.box cs0) ∧ ∀ vs, RepL (RepA g' w) cs0 vs → RepL (RepA g' w) cs vs := fun j cs hj => by
    by_cases hjb : j = b
    · subst hjb; rw [upd_same] at hj; cases hj; exact ⟨_, hb1, fun _ h => key h⟩
    · exact ⟨cs, same j _ hj hjb, fun _ h => h⟩
  have ch' : ∀ j u, upd (upd st.mem k (some (.chain 0))) b (some (.box (pre ++ .own 0 sz f k :: post))) j = some (.chain u) → (st.set k (.chain 0)).mem j = some (.chain u) := fun j u hj => by
    by_cases hjb : j = b
    · subst hjb; rw [upd_same] at hj; cases hj
    · exact same j _ hj hjb
  have own' : ∀ {j c}, Own g' { st with mem := upd (upd st.mem k (some (.chain 0))) b (some (.box (pre ++ .own 0 sz f k :: post))) } j c → Own g' (st.set k (.chain 0)) j c := by
    rintro j c (⟨cs, h4, h5⟩ | ⟨u, h4, h5, h6⟩)
    · obtain ⟨cs0, h7, _⟩ := box' j cs h4; exact .inl ⟨cs0, h7, h5⟩
    · exact .inr ⟨u, ch' j u h4, h5, h6⟩
  refine ⟨g', h1.df, fun j hj => ?_, fun j hj => ?_, h1.nt, h1.sl, fun j cs hj => ?_, fun j u hj => h1.chain j u (ch' j u hj), fun j l c h4 h5 => h1.inj j l c (own' h4) (own' h5), fun j cs hj => ?_, fun j u hj => h1.ownc j u (ch' j u hj), h1.os, h1.tape, h1.out, h1.size, h1.old, h1.sub, h1.new, h1.bnd, fun i cs hj => ?_, h1.pbl⟩
  · obtain ⟨cs, h4⟩ := h1.prb j hj
    by_cases hjb : j = b
    · subst hjb; exact ⟨_, upd_same _ _ _⟩
    · exact ⟨cs, (upd_other _ _ hjb).trans h4⟩
  · obtain ⟨u, h4⟩ := h1.prc j hj
    have hjb : j ≠ b := fun e => by rw [e, hb1] at h4; cases h4
    exact ⟨u, (upd_other _ _ hjb).trans h4⟩
  · obtain ⟨cs0, h4, h5⟩ := box' j cs hj
    obtain ⟨vs, T, h6, h7, h8⟩ := h1.box j cs0 h4
    exact ⟨vs, T, h6, h5 _ h7, h8⟩
  · obtain ⟨cs0, h4, _⟩ := box' j cs hj; exact h1.ownb j cs0 h4
  · obtain ⟨cs0, h4, _⟩ := box' (pk i) cs hj; exact h1.par i cs0 h4
theorem St.le_trans {a b c : St} (h1 : St.le a b) (h2 : St.le b c) : St.le a c := fun E w x h => h2 E w x (h1 E w x h)
theorem sl_leD {w : World} {S : Nat → Nat → Prop} {n sz : Nat} {f f' : Nat → Nat → D} {v : Value} (h : ∀ i, i < n → ∀ j, j < sz → f i j = f' i j) (hr : RepD w S (.sl n sz f) v) : RepD w S (.sl n sz f') v := by
  rcases hr with hr | ⟨b, off, cap, h1, h2, h3⟩
  · exact .inl hr
  · exact .inr ⟨b, off, cap, h1, h2, fun i hi j hj => by rw [← h i hi j hj]; exact h3 i hi j hj⟩
/-- rows that are the same as far as they go -/
theorem sl_le {n sz : Nat} {f f' : Nat → Nat → D} (h : ∀ i, i < n → ∀ j, j < sz → f i j = f' i j) : A.le (.d (.sl n sz f)) (.d (.sl n sz f')) := fun _ _ _ hr => sl_leD h hr
/-- what a function comes back with, no boxes, told with less -/
theorem Runs.to {f : Nat} {args : List A} {bs bs' : List (List D)} {d0 d : D} (h : Runs P f args bs (.d d0) bs') (hr : A.le (.d d0) (.d d)) : Runs P f args bs (.d d) bs' := h.res ⟨fun h => h, hr⟩ (BsLe.refl _)
/-- a cut whose ways meet again in a family of states; but those that leave -/
theorem g_jf {α : Type} (h : t.isCu = true) (S : α → St) (I : α → Prop) (h1 : Goes' P t.cuT (Rd P S I (fun _ => 0) 1 t.cuK K)) (h2 : ∀ y, I y → Goes' P (t.cuK .normal (S y)) K) : Goes' P t K :=
  g_join h h1 fun e s hr => by
    rcases hr with ⟨rfl, y, hy, _, hs⟩ | ⟨_, hk⟩
    · exact ⟨S y, hs, h2 y hy⟩
    · exact ⟨s, St.le_refl s, hk⟩
def V.le (x y : V) : Prop := ∀ w S v, RepV w S x v → RepV w S y v
inductive VsLe : List V → List V → Prop
  | nil : VsLe [] []
  | cons {x y xs ys} : V.le x y → VsLe xs ys → VsLe (x :: xs) (y :: ys)
theorem VsLe.rep {w : World} {S : Nat → Nat → Prop} {xs ys : List V} (h : VsLe xs ys) : ∀ {vs : List Value}, RepL (RepV w S) xs vs → RepL (RepV w S) ys vs := by
  induction h with
  | nil => exact fun h => h
  | cons h1 _ ih => rintro _ ⟨v, r, rfl, h2, h3⟩; exact ⟨v, r, rfl, h1 w S v h2, ih h3⟩
theorem tup_le {xs ys : List V} (h : VsLe xs ys) : A.le (.tup xs) (.tup ys) := fun _ _ _ ⟨vs, e, hr⟩ => ⟨vs, e, h.rep hr⟩
theorem V.le_refl (x : V) : V.le x x := fun _ _ _ h => h
/-- a function comes back with that, or with what says more -/
def FinLe (P : Program) (fn : Func) (nb : Nat) (r : A) (bs' : List (List D)) (e : Ex) (s : St) : Prop := ∃ r0 bs0, fin P fn nb e s = some (r0, bs0) ∧ ResLe r0 r ∧ BsLe bs0 bs'
theorem r_fnL {f : Nat} {args : List A} {bs bs' : List (List D)} {r : A} {fn : Func} {body : Code} (h1 : P.funcs[f]? = some fn) (h2 : fn.body = some body) (h3 : ((fn.name == "runtime.NumGoroutine"), Nat.ble args.length fn.ntmps) = (false, true))
    (h : Goes' P (ex P body (initSt fn.ntmps args bs)) (FinLe P fn bs.length r bs')) : Runs P f args bs r bs' := by
  obtain ⟨e, s, q, r0, bs0, k1, k2, k3⟩ := h
  simp only [Prod.mk.injEq] at h3
  exact (Runs.mk h1 h2 h3.1 (Nat.le_of_ble_eq_true h3.2) q k1).res k2 k3
theorem finLe {fn : Func} {nb : Nat} {r r0 : A} {bs0 bs' : List (List D)} {e : Ex} {s : St} (h : fin P fn nb e s = some (r0, bs0)) (hr : ResLe r0 r) (hb : BsLe bs0 bs') : FinLe P fn nb r bs' e s := ⟨r0, bs0, h, hr, hb⟩
theorem resT {xs ys : List V} (h : VsLe xs ys) : ResLe (.tup xs) (.tup ys) := ⟨fun h => h, tup_le h⟩
/-- what a function comes back with, several, told with less -/
theorem Runs.toT {f : Nat} {args : List A} {bs bs' : List (List D)} {xs ys : List V} (h : Runs P f args bs (.tup xs) bs') (hr : VsLe xs ys) : Runs P f args bs (.tup ys) bs' := h.res ⟨fun h => h, tup_le hr⟩ (BsLe.refl _)
theorem nil_le {sz : Nat} {f : Nat → Nat → D} : V.le (.d .nil) (.d (.sl 0 sz f)) := fun _ _ _ h => .inl ⟨rfl, h⟩
theorem slV_le {n sz : Nat} {f f' : Nat → Nat → D} (h : ∀ i, i < n → ∀ j, j < sz → f i j = f' i j) : V.le (.d (.sl n sz f)) (.d (.sl n sz f')) := fun _ _ _ hr => sl_leD h hr
/-- the rows are those of a list -/
def Rows {α : Type} (c : α → Nat → D) (sz : Nat) (f : Nat → Nat → D) (l : List α) : Prop := ∀ (i : Nat) (h : i < l.length) (j : Nat), j < sz → f i j = c l[i] j
theorem Rows.push {α : Type} {c : α → Nat → D} {sz n : Nat} {f g : Nat → Nat → D} {l : List α} {x : α} (h : Rows c sz f l) (hn : n = l.length) (hg : ∀ j, j < sz → g 0 j = c x j) : Rows c sz (apRow n f (oneRow 1 g)) (l ++ [x]) := by
  subst hn
  intro i hi j hj
  rw [List.length_append, List.length_singleton] at hi
  by_cases hl : i < l.length
  · rw [apRow_lt hl, h i hl j hj, List.getElem_append_left hl]
  · obtain rfl : i = l.length := by omega
    rw [apRow_ge (Nat.le_refl _), Nat.sub_self, List.getElem_append_right (Nat.le_refl _)]
    simp only [Nat.sub_self, List.getElem_singleton]
    exact hg j hj
theorem Rows.none {α : Type} (c : α → Nat → D) (sz : Nat) (f : Nat → Nat → D) : Rows c sz f [] := fun i h => absurd h (Nat.not_lt_zero i)
theorem Rows.getD {α : Type} {c : α → Nat → D} {sz : Nat} {f : Nat → Nat → D} {l : List α} (h : Rows c sz f l) (d : α) : ∀ i, i < l.length → ∀ j, j < sz → f i j = c (l.getD i d) j := by
  intro i hi j hj; rw [h i hi j hj]; simp [hi]
/-- a loop's first round by itself -/
theorem g_round (h : t.isLo = true) (h1 : Goes' P (ex P t.loC t.loS) fun e s => (e.isN = true ∧ ∃ s', St.le s s' ∧ Goes' P (.loop t.loC s' t.loK) K) ∨ (e.isN = false ∧ Goes' P (t.loK e s) K)) : Goes' P t K := by
  cases t <;> first | (cases h; done) | skip
  case loop c st k =>
    obtain ⟨e, s, q, h2⟩ := h1
    rcases h2 with ⟨he, s', hle, e2, s2, q2, k2⟩ | ⟨he, e2, s2, q2, k2⟩
    · obtain rfl := Ex.isN_eq he
      refine ⟨e2, s2, .loopN (St.le_refl _) q ?_, k2⟩
      generalize hl : T.loop c s' k = x at q2
      cases q2 with
      | loopX a1 a2 a3 a4 => cases hl; exact .loopX (fun E w a h => a1 E w a (hle E w a h)) a2 a3 a4
      | loopN a1 a2 a3 => cases hl; exact .loopN (fun E w a h => a1 E w a (hle E w a h)) a2 a3
      | _ => cases hl
    · exact ⟨e2, s2, .loopX (St.le_refl _) q (fun hn => by rw [hn] at he; cases he) q2, k2⟩
inductive DsLe : List D → List D → Prop
  | nil : DsLe [] []
  | cons {x y xs ys} : V.le (.d x) (.d y) → DsLe xs ys → DsLe (x :: xs) (y :: ys)
theorem DsLe.refl : ∀ (xs : List D), DsLe xs xs | [] => .nil | _ :: xs => .cons (V.le_refl _) (DsLe.refl xs)
theorem DsLe.rep {w : World} {S : Nat → Nat → Prop} {xs ys : List D} (h : DsLe xs ys) : ∀ {vs : List Value}, RepL (RepD w S) xs vs → RepL (RepD w S) ys vs := by
  induction h with
  | nil => exact fun h => h
  | cons h1 _ ih => rintro _ ⟨v, r, rfl, h2, h3⟩; exact ⟨v, r, rfl, h1 w S v h2, ih h3⟩
theorem aggV_le {xs ys : List D} (h : DsLe xs ys) : V.le (.agg xs) (.agg ys) := fun _ _ _ ⟨vs, e, hr⟩ => ⟨vs, e, h.rep hr⟩
theorem agg_le {xs ys : List D} (h : DsLe xs ys) : A.le (.agg xs) (.agg ys) := fun _ _ _ ⟨vs, e, hr⟩ => ⟨vs, e, h.rep hr⟩
theorem resA {xs ys : List D} (h : DsLe xs ys) : ResLe (.agg xs) (.agg ys) := ⟨fun h => h, agg_le h⟩
/-- a function's run -/
theorem r_fn {f : Nat} {args : List A} {bs bs' : List (List D)} {r : A} {fn : Func} {body : Code} (h1 : P.funcs[f]? = some fn) (h2 : fn.body = some body) (h3 : ((fn.name == "runtime.NumGoroutine"), Nat.ble args.length fn.ntmps) = (false, true))
    (h : Goes' P (ex P body (initSt fn.ntmps args bs)) fun e s => fin P fn bs.length e s = some (r, bs')) : Runs P f args bs r bs' := by
  obtain ⟨e, s, q, k⟩ := h
  simp only [Prod.mk.injEq] at h3
  exact Runs.mk h1 h2 h3.1 (Nat.le_of_ble_eq_true h3.2) q k
/-! ### canonical states -/
def lkS : List (Nat × A) → Nat → A | [] => fun _ => .undef | (k, v) :: l => fun t => match Nat.beq t k with | true => v | false => lkS l t
def lkM : List (Nat × M) → Nat → Option M | [] => fun _ => none | (k, v) :: l => fun t => match Nat.beq t k with | true => some v | false => lkM l t
def mkSt (nt : Nat) (sl : List (Nat × A)) (mem : List (Nat × M)) : St := ⟨nt, lkS sl, lkM mem⟩
def refsOk (ks : List Nat) : A → Bool
  | .ptr k _ => ks.elem k
  | .own _ _ _ t => ks.elem t
  | .fn _ caps => caps.all fun c => match c with | .ptr k => ks.elem k | .d _ => true
  | .opt _ a => refsOk ks a
  | _ => true
def slOk (ks : List Nat) : List (Nat × A) → Bool | [] => true | (_, v) :: l => refsOk ks v && slOk ks l
def memOk (ks : List Nat) : List (Nat × M) → Bool | [] => true | (_, .box cs) :: l => cs.all (refsOk ks) && memOk ks l | (_, .chain _) :: l => memOk ks l
def pickSl (st : St) : List (Nat × A) → List A | [] => [] | (k, _) :: l => st.sl k :: pickSl st l
def pickMem (st : St) : List (Nat × M) → List (Option M) | [] => [] | (k, _) :: l => st.mem k :: pickMem st l
theorem refs_rep {g g' : G} {w : World} {ks : List Nat} (hS : g'.S = g.S) (hb : ∀ k, ks.elem k = true → (g.PB k → g'.PB k ∧ g'.β k = g.β k) ∧ (g.PC k → g'.PC k ∧ g'.cb k = g.cb k ∧ g'.used k = g.used k ∧ g'.cap k = g.cap k ∧ g'.sz k = g.sz k)) : ∀ {a : A} {v : Value}, refsOk ks a = true → RepA g w a v → RepA g' w a v := by
  intro a
  induction a with
  | undef => exact fun _ _ => trivial
  | d x => intro v _ h; show RepD w g'.S x v; rw [hS]; exact h
  | agg cs => intro v _ h; show ∃ vs, v = .agg vs ∧ RepL (RepD w g'.S) cs vs.toList; rw [hS]; exact h
  | tup xs => intro v _ h; show ∃ vs, v = .tuple vs ∧ RepL (RepV w g'.S) xs vs.toList; rw [hS]; exact h
  | ptr k off => intro v hk h; obtain ⟨rfl, hp⟩ := h; have := (hb k hk).1 hp; exact ⟨by rw [this.2], this.1⟩
  | rp n c => intro v _ h; show ∃ b off, v = .pointer (some ⟨b, off, none⟩) ∧ ∀ j, j < n → g'.S b (off + j) ∧ ∃ u, w.cell? ⟨b, off + j, none⟩ = some u ∧ RepD w g'.S (c j) u; rw [hS]; exact h
  | own n sz f t =>
    intro v hk h
    obtain ⟨h0, h1, h2, h3, h4⟩ := h
    obtain ⟨q0, q1, q2, q3, q4⟩ := (hb t hk).2 h0
    exact ⟨q0, by rw [q2]; exact h1, by rw [hS]; exact h2, h3, fun hn hu => by rw [q1, q3, q4]; exact h4 hn (hu.trans q2)⟩
  | fn f cs =>
    intro v hk h
    obtain ⟨vs, rfl, h⟩ := h
    refine ⟨vs, rfl, ?_⟩
    have hk' : ∀ c ∈ cs, (match c with | .ptr k => ks.elem k | .d _ => true) = true := List.all_eq_true.1 hk
    have : ∀ (l : List Cp) (us : List Value), (∀ c ∈ l, (match c with | .ptr k => ks.elem k | .d _ => true) = true) → RepL (RepCp g w) l us → RepL (RepCp g' w) l us := by
      intro l
      induction l with
      | nil => exact fun _ _ h => h
      | cons c l ih =>
        rintro us hl ⟨u, r, e, h1, h2⟩
        refine ⟨u, r, e, ?_, ih r (fun c hc => hl c (List.mem_cons_of_mem _ hc)) h2⟩
        cases c with
        | d x => show RepD w g'.S x u; rw [hS]; exact h1
        | ptr k => obtain ⟨rfl, hp⟩ := h1; have := (hb k (hl _ List.mem_cons_self)).1 hp; exact ⟨by rw [this.2], this.1⟩
    exact this cs vs.toList hk' h
  | opt b a ih => intro v hk h; exact ⟨fun hb' => ih hk (h.1 hb'), h.2⟩
theorem lkS_spec {st : St} : ∀ {l : List (Nat × A)}, pickSl st l = l.map (·.2) → ∀ t, lkS l t = .undef ∨ (lkS l t = st.sl t ∧ ∃ p ∈ l, p.2 = lkS l t)
  | [], _, t => .inl rfl
  | (k, v) :: l, h, t => by
    simp only [pickSl, List.map_cons, List.cons.injEq] at h
    unfold lkS
    cases hb : Nat.beq t k with
    | true => have := Nat.eq_of_beq_eq_true hb; subst this; exact .inr ⟨h.1.symm, _, List.mem_cons_self, rfl⟩
    | false =>
      rcases lkS_spec h.2 t with h1 | ⟨h1, p, h2, h3⟩
      · exact .inl h1
      · exact .inr ⟨h1, p, List.mem_cons_of_mem _ h2, h3⟩
theorem lkM_spec {st : St} : ∀ {l : List (Nat × M)}, pickMem st l = l.map (some ·.2) → ∀ k m, lkM l k = some m → st.mem k = some m ∧ ∃ p ∈ l, p.1 = k ∧ p.2 = m
  | [], _, k, m, h => by cases h
  | (k0, v) :: l, h, k, m, hm => by
    simp only [pickMem, List.map_cons, List.cons.injEq] at h
    unfold lkM at hm
    cases hb : Nat.beq k k0 with
    | true => have := Nat.eq_of_beq_eq_true hb; subst this; rw [hb] at hm; cases hm; exact ⟨h.1, _, List.mem_cons_self, rfl, rfl⟩
    | false =>
      rw [hb] at hm
      obtain ⟨h1, p, h2, h3⟩ := lkM_spec h.2 k m hm
      exact ⟨h1, p, List.mem_cons_of_mem _ h2, h3⟩
theorem slOk_spec {ks : List Nat} : ∀ {l : List (Nat × A)}, slOk ks l = true → ∀ p ∈ l, refsOk ks p.2 = true
  | (k, v) :: l, h, p, hp => by
    unfold slOk at h; rw [Bool.and_eq_true] at h
    rcases List.mem_cons.1 hp with rfl | hp
    · exact h.1
    · exact slOk_spec h.2 p hp
theorem memOk_spec {ks : List Nat} : ∀ {l : List (Nat × M)}, memOk ks l = true → ∀ p ∈ l, ∀ cs, p.2 = .box cs → cs.all (refsOk ks) = true
  | (k, .box c) :: l, h, p, hp, cs, e => by
    unfold memOk at h; rw [Bool.and_eq_true] at h
    rcases List.mem_cons.1 hp with rfl | hp
    · cases e; exact h.1
    · exact memOk_spec h.2 p hp cs e
  | (k, .chain c) :: l, h, p, hp, cs, e => by
    unfold memOk at h
    rcases List.mem_cons.1 hp with rfl | hp
    · cases e
    · exact memOk_spec h p hp cs e
theorem lkM_some : ∀ {l : List (Nat × M)} {k : Nat}, (l.map (·.1)).elem k = true → ∃ m, lkM l k = some m
  | (k0, v) :: l, k, h => by
    unfold lkM
    cases hb : Nat.beq k k0 with
    | true => exact ⟨v, rfl⟩
    | false =>
      have h' := List.elem_iff.1 h
      rcases List.mem_cons.1 h' with h' | h'
      · subst h'; rw [Nat.beq_refl] at hb; cases hb
      · exact lkM_some (List.elem_iff.2 h')
/-- a state, forgotten but for what is told: the kernel reckons the premise -/
theorem le_mk {st : St} {nt : Nat} {sl : List (Nat × A)} {mem : List (Nat × M)} (h : (st.nt, pickSl st sl, pickMem st mem, slOk (mem.map (·.1)) sl && memOk (mem.map (·.1)) mem) = (nt, sl.map (·.2), mem.map (some ·.2), true)) : St.le st (mkSt nt sl mem) := by
  simp only [Prod.mk.injEq] at h
  obtain ⟨hnt, hsl, hmem, hok⟩ := h
  rw [Bool.and_eq_true] at hok
  rintro E w a ⟨g, h⟩
  have hl : ∀ k m, lkM mem k = some m → st.mem k = some m := fun k m hm => (lkM_spec hmem k m hm).1
  let g' : G := { g with PB := fun k => g.PB k ∧ (mem.map (·.1)).elem k = true, PC := fun k => g.PC k ∧ (mem.map (·.1)).elem k = true }
  have rr : ∀ {a : A} {v : Value}, refsOk (mem.map (·.1)) a = true → RepA g w a v → RepA g' w a v := fun ha hr => refs_rep (g := g) (g' := g') rfl (fun k hk => ⟨fun hp => ⟨⟨hp, hk⟩, rfl⟩, fun hp => ⟨⟨hp, hk⟩, rfl, rfl, rfl, rfl⟩⟩) ha hr
  have own' : ∀ k b, Own g' (mkSt nt sl mem) k b → Own g st k b := by
    rintro k b (⟨cs, h1, h2⟩ | ⟨u, h1, h2, h3⟩)
    · exact .inl ⟨cs, hl _ _ h1, h2⟩
    · exact .inr ⟨u, hl _ _ h1, h2, h3⟩
  refine ⟨g', h.df, ?_, ?_, h.nt.trans hnt, ?_, ?_, fun k u hk => h.chain k u (hl _ _ hk), fun k l b hk hl' => h.inj k l b (own' k b hk) (own' l b hl'), fun k cs hk => h.ownb k cs (hl _ _ hk), fun k u hk hu => h.ownc k u (hl _ _ hk) hu, h.os, h.tape, h.out, h.size, h.old, h.sub, h.new, h.bnd, fun i cs hi => h.par i cs (hl _ _ hi), h.pbl⟩
  · rintro k ⟨hp, hk⟩
    obtain ⟨m, hm⟩ := lkM_some hk
    obtain ⟨cs, hc⟩ := h.prb k hp
    have := hl k m hm
    rw [hc] at this; cases this
    exact ⟨cs, hm⟩
  · rintro k ⟨hp, hk⟩
    obtain ⟨m, hm⟩ := lkM_some hk
    obtain ⟨cs, hc⟩ := h.prc k hp
    have := hl k m hm
    rw [hc] at this; cases this
    exact ⟨cs, hm⟩
  · intro t
    show RepA g' w (lkS sl t) _
    rcases lkS_spec hsl t with h1 | ⟨h1, p, h2, h3⟩
    · rw [h1]; trivial
    · have := slOk_spec hok.1 p h2
      rw [h3] at this
      exact rr this (h1 ▸ h.sl t)
  · intro k cs hk
    obtain ⟨h1, p, h2, _, h4⟩ := lkM_spec hmem k _ hk
    obtain ⟨vs, T, h5, h6, h7⟩ := h.box k cs h1
    have hall := memOk_spec hok.2 p h2 cs h4
    refine ⟨vs, T, h5, ?_, h7⟩
    have : ∀ (l : List A) (us : List Value), l.all (refsOk (mem.map (·.1))) = true → RepL (RepA g w) l us → RepL (RepA g' w) l us := by
      intro l
      induction l with
      | nil => exact fun _ _ h => h
      | cons c l ih =>
        rintro us hl ⟨u, r, e, q1, q2⟩
        rw [List.all_cons, Bool.and_eq_true] at hl
        exact ⟨u, r, e, rr hl.1 q1, ih r hl.2 q2⟩
    exact this cs vs.toList hall h6
end Go.Ab
