/- The tree that a piece of code comes to, and what it means that it runs. -/
import Derived.Test.YtggkkkpafealkaaAbF1
namespace Go.Ab
open Go
inductive Ex where
  | normal
  | exit (id : Nat)
  | ret
inductive T where
  | fail
  | done (e : Ex) (st : St)
  | br (b : Bool) (t u : T)
  | need (c : Bool) (t : T)
  | imps (l : List (List Bool × List Bool)) (t : T)
  | call (f : Nat) (args : List A) (bs : List (List D)) (k : A → List (List D) → T)
  | callG (gs : List Bool) (f : Nat) (args : List A) (k : A → T)
  | loop (c : Code) (st : St) (k : Ex → St → T)
  | cut (t : T) (k : Ex → St → T)
def T.bind : T → (Ex → St → T) → T
  | .fail, _ => .fail
  | .done e st, k => k e st
  | .br b t u, k => .cut (.br b t u) k
  | .need c t, k => .need c (t.bind k)
  | .imps l t, k => .imps l (t.bind k)
  | .call f args bs k', k => .call f args bs fun r b => (k' r b).bind k
  | .callG gs f args k', k => .callG gs f args fun r => (k' r).bind k
  | .loop c st k', k => .loop c st fun e s => (k' e s).bind k
  | .cut t k', k => .cut t fun e s => (k' e s).bind k
def conjB (c : Bool) : List Bool → Bool | [] => c | d :: l => c && conjB d l
def needs (cs : List Bool) (t : T) : T := match cs with | [] => t | c :: l => .need (conjB c l) t
def owed (cs : List Bool) (im : List (List Bool × List Bool)) (t : T) : T := match im with | [] => needs cs t | p :: l => .imps (p :: l) (needs cs t)
/-! ### a call's arguments and boxes -/
/-- the place of a key in a row; at the end if it isn't there -/
def idx : List Nat → Nat → Nat
  | [], _ => 0
  | x :: xs, k => match Nat.beq x k with | true => 0 | false => idx xs k + 1
def addK : List Nat → Nat → List Nat
  | [], k => [k]
  | x :: xs, k => match Nat.beq x k with | true => x :: xs | false => x :: addK xs k
def capKeys (ks : List Nat) : List Cp → List Nat | [] => ks | .ptr k :: cs => capKeys (addK ks k) cs | _ :: cs => capKeys ks cs
def keysOf (ks : List Nat) : List A → List Nat
  | [] => ks
  | .ptr k _ :: as => keysOf (addK ks k) as
  | .fn _ caps :: as => keysOf (capKeys ks caps) as
  | _ :: as => keysOf ks as
def renCp (ks : List Nat) : Cp → Cp | .ptr k => .ptr (pk (idx ks k)) | c => c
def renA (ks : List Nat) : A → Option A
  | .d x => some (.d x)
  | .agg cs => some (.agg cs)
  | .own n sz f _ => some (.d (.sl n sz f))
  | .ptr k off => some (.ptr (pk (idx ks k)) off)
  | .fn f caps => some (.fn f (caps.map (renCp ks)))
  | _ => none
def renAs (ks : List Nat) : List A → Option (List A)
  | [] => some []
  | a :: as => match renA ks a, renAs ks as with | some b, some bs => some (b :: bs) | _, _ => none
def boxesOf (mem : Nat → Option M) : List Nat → Option (List (List D))
  | [] => some []
  | k :: ks =>
    match mem k with
    | some (.box cs) => match toDs cs, boxesOf mem ks with | some ds, some r => some (ds :: r) | _, _ => none
    | _ => none
def setBoxes (st : St) : List Nat → List (List D) → St
  | k :: ks, b :: bs => setBoxes (st.set k (.box (b.map .d))) ks bs
  | _, _ => st
def capA : Cp → A | .d x => .d x | .ptr k => .ptr k 0
/-- the call of a function that an operation is: the function, its arguments (renamed), the boxes' keys and what is in them -/
def callOf (st : St) (c : Call) : Option (Nat × List A × List Nat × List (List D)) :=
  match c.callee with
  | .value x =>
    match strip (st.ev x) with
    | .fn f caps =>
      let as := c.args.toList.map (fun y => strip (st.ev y)) ++ caps.map capA
      let ks := keysOf [] as
      match renAs ks as, boxesOf st.mem ks with
      | some as', some bs => some (f, as', ks, bs)
      | _, _ => none
    | _ => none
  | _ => none
def isCall : Op → Option Call
  | .call c => match c.callee with | .value _ => some c | _ => none
  | _ => none
/-- which boxes an operation reads, which it writes -/
structure Fp where
  rd : List Nat
  wr : List Nat
def Rs.fp (r : Rs) : Fp := ⟨r.rd.toList, (r.wr.map (·.1)).toList⟩
/-! ### independence in a region that draws its order -/
def disj (xs ys : List Nat) : Bool := xs.all fun x => ys.all fun y => !(Nat.beq x y)
def Fp.apart (p q : Fp) : Bool := disj p.wr q.rd && (disj p.wr q.wr && disj p.rd q.wr)
def afterOf (o : Oper) : List Nat := (o.after.toList.filter (Region.binds .any ·)).map (·.on)
def reachB (ops : Array Oper) : Nat → Nat → Nat → Bool
  | 0, _, _ => false
  | n + 1, x, i => match ops[i]? with | some o => (afterOf o).any fun j => Nat.beq j x || reachB ops n x j | none => false
def opsApart (ops : Array Oper) (i j : Nat) : Bool := match ops[i]?, ops[j]? with | some x, some y => x.apart ops y && y.apart ops x | _, _ => false
def pairOk (ops : Array Oper) (i : Nat) (p : Fp) (j : Nat) (q : Fp) : Bool := (opsApart ops i j && p.apart q) || reachB ops ops.size i j
def fpRow (ops : Array Oper) (i : Nat) (p : Fp) : Nat → List Fp → Bool
  | _, [] => true
  | j, q :: qs => pairOk ops i p j q && fpRow ops i p (j + 1) qs
def fpOk (ops : Array Oper) : Nat → List Fp → Bool
  | _, [] => true
  | i, p :: ps => fpRow ops i p (i + 1) ps && fpOk ops (i + 1) ps
def plainOp : Op → Bool | .select _ _ | .go _ | .defer _ | .recv .. | .send .. => false | _ => true
def edgesOk (ops : Array Oper) : Bool := ops.toList.zipIdx.all fun x => (afterOf x.1).all (fun j => Nat.blt j x.2) && plainOp x.1.op
/-! ### code as a tree -/
def exOps (P : Program) (ops : Array Oper) (draw : Bool) : List Oper → St → List Fp → List Bool → List (List Bool × List Bool) → T
  | [], st, acc, cs, im => owed cs im (match draw with | false => .done .normal st | true => (match edgesOk ops && fpOk ops 0 acc.reverse with | true => .done .normal st | false => .fail))
  | o :: os, st, acc, cs, im =>
    match isCall o.op with
    | some c =>
      match callOf st c with
      | some (f, as, ks, bs) =>
        match guardOf st ops o with
        | some [] => .call f as bs fun r bs' => exOps P ops draw os ((setBoxes st ks bs').put o.dst r) (⟨ks, ks⟩ :: acc) cs (im ++ gOfs st [] o.op.operands.toList)
        | some (g :: gs) =>
          match ks with
          | [] => .callG (g :: gs) f as fun r => exOps P ops draw os (st.put o.dst (.opt (g :: gs) r)) (⟨[], []⟩ :: acc) cs (im ++ gOfs st (g :: gs) o.op.operands.toList)
          | _ => .br (allB (g :: gs)) (.call f as bs fun r bs' => exOps P ops draw os ((setBoxes st ks bs').put o.dst r) (⟨ks, ks⟩ :: acc) cs (im ++ gOfs st (g :: gs) o.op.operands.toList)) (exOps P ops draw os (st.put o.dst (.opt [false] .undef)) (⟨[], []⟩ :: acc) cs im)
        | none => .fail
      | none =>
        match guardOf st ops o with
        | some gs => .need (!(allB gs)) (exOps P ops draw os (st.put o.dst (.opt [false] .undef)) (⟨[], []⟩ :: acc) cs im)
        | _ => .fail
    | none =>
      match aop P ops st o with
      | some r => exOps P ops draw os (r.app st o.dst) (r.fp :: acc) (cs ++ r.cond) (im ++ r.imps)
      | none => .fail
def ex (P : Program) : Code → St → T
  | .skip, st => .done .normal st
  | .region _ ops draw, st => exOps P ops draw ops.toList st [] [] []
  | .seq a b, st => (ex P a st).bind fun e st' => match e with | .normal => ex P b st' | e => .done e st'
  | .cond c a b, st => match st.ev c with | .d (.bool x) => .br x (ex P a st) (ex P b st) | _ => .fail
  | .block id c, st => (ex P c st).bind fun e st' => match e with | .exit i => (match Nat.beq i id with | true => .done .normal st' | false => .done e st') | e => .done e st'
  | .loop c, st => .loop c st fun e st' => .done e st'
  | .exit id, st => .done (.exit id) st
  | .ret, st => .done .ret st
  | _, _ => .fail
/-! ### what it means that a tree runs; Φ: which calls are known -/
abbrev Calls' := Nat → List A → List (List D) → A → List (List D) → Prop
inductive RunT (P : Program) (Φ : Calls') : T → Ex → St → Prop
  | done {e st} : RunT P Φ (.done e st) e st
  | brT {b t u e st} : b = true → RunT P Φ t e st → RunT P Φ (.br b t u) e st
  | brF {b t u e st} : b = false → RunT P Φ u e st → RunT P Φ (.br b t u) e st
  | need {c t e st} : c = true → RunT P Φ t e st → RunT P Φ (.need c t) e st
  | imps {l t e st} : ImpsOk l → RunT P Φ t e st → RunT P Φ (.imps l t) e st
  | call {f args bs k r bs' e st} : Φ f args bs r bs' → RunT P Φ (k r bs') e st → RunT P Φ (.call f args bs k) e st
  | callG {gs f args k r e st} : (allB gs = true → Φ f args [] r []) → RunT P Φ (k r) e st → RunT P Φ (.callG gs f args k) e st
  | loopX {c st st0 k e1 st1 e st2} : St.le st st0 → RunT P Φ (ex P c st0) e1 st1 → e1 ≠ .normal → RunT P Φ (k e1 st1) e st2 → RunT P Φ (.loop c st k) e st2
  | loopN {c st st0 k st1 e st2} : St.le st st0 → RunT P Φ (ex P c st0) .normal st1 → RunT P Φ (.loop c st1 k) e st2 → RunT P Φ (.loop c st k) e st2
  | cutJ {t k e1 st1 st1' e st} : RunT P Φ t e1 st1 → St.le st1 st1' → RunT P Φ (k e1 st1') e st → RunT P Φ (.cut t k) e st
  | cutT {b t u k e st} : b = true → RunT P Φ (T.bind t k) e st → RunT P Φ (.cut (.br b t u) k) e st
  | cutF {b t u k e st} : b = false → RunT P Φ (T.bind u k) e st → RunT P Φ (.cut (.br b t u) k) e st
theorem RunT.mono {P : Program} {Φ Φ' : Calls'} (h : ∀ f as bs r bs', Φ f as bs r bs' → Φ' f as bs r bs') {t : T} {e : Ex} {st : St} (hr : RunT P Φ t e st) : RunT P Φ' t e st := by
  induction hr with
  | done => exact .done
  | brT h1 _ ih => exact .brT h1 ih
  | brF h1 _ ih => exact .brF h1 ih
  | need h1 _ ih => exact .need h1 ih
  | imps h1 _ ih => exact .imps h1 ih
  | call h1 _ ih => exact .call (h _ _ _ _ _ h1) ih
  | callG h1 _ ih => exact .callG (fun hg => h _ _ _ _ _ (h1 hg)) ih
  | loopX h1 _ h2 _ ih1 ih2 => exact .loopX h1 ih1 h2 ih2
  | loopN h1 _ _ ih1 ih2 => exact .loopN h1 ih1 ih2
  | cutJ _ h1 _ ih1 ih2 => exact .cutJ ih1 h1 ih2
  | cutT h1 _ ih => exact .cutT h1 ih
  | cutF h1 _ ih => exact .cutF h1 ih
theorem St.le_refl (st : St) : St.le st st := fun _ _ _ h => h
theorem bind_assoc : ∀ (t : T) (k k' : Ex → St → T), (t.bind k).bind k' = t.bind fun e s => (k e s).bind k' := by
  intro t k k'
  induction t with
  | fail => rfl
  | done => rfl
  | br => rfl
  | need c t ih => simp only [T.bind, ih]
  | imps l t ih => simp only [T.bind, ih]
  | call f as bs k'' ih => simp only [T.bind]; congr 1; funext r b; exact ih r b
  | callG gs f as k'' ih => simp only [T.bind]; congr 1; funext r; exact ih r
  | loop c st k'' ih => simp only [T.bind]; congr 1; funext e s; exact ih e s
  | cut t k'' _ ih => simp only [T.bind]; congr 1; funext e s; exact ih e s
/-- what runs behind a bind: first the one, then the other -/
theorem RunT.bind_inv {P : Program} {Φ : Calls'} {x : T} {e : Ex} {st : St} (h : RunT P Φ x e st) : ∀ (t : T) (k : Ex → St → T), x = t.bind k → ∃ e1 st1 st1', RunT P Φ t e1 st1 ∧ St.le st1 st1' ∧ RunT P Φ (k e1 st1') e st := by
  induction h with
  | @done e st =>
    intro t k hx
    cases t <;> simp only [T.bind, reduceCtorEq] at hx
    case done e1 st1 => exact ⟨e1, st1, st1, .done, St.le_refl _, hx ▸ .done⟩
  | @brT b t1 u e st h1 h2 ih =>
    intro t k hx
    cases t <;> simp only [T.bind, reduceCtorEq] at hx
    case done e1 st1 => exact ⟨e1, st1, st1, .done, St.le_refl _, hx ▸ .brT h1 h2⟩
  | @brF b t1 u e st h1 h2 ih =>
    intro t k hx
    cases t <;> simp only [T.bind, reduceCtorEq] at hx
    case done e1 st1 => exact ⟨e1, st1, st1, .done, St.le_refl _, hx ▸ .brF h1 h2⟩
  | @need c t1 e st h1 h2 ih =>
    intro t k hx
    cases t <;> simp only [T.bind, reduceCtorEq, T.need.injEq] at hx
    case done e1 st1 => exact ⟨e1, st1, st1, .done, St.le_refl _, hx ▸ .need h1 h2⟩
    case need c' t' =>
      obtain ⟨rfl, rfl⟩ := hx
      obtain ⟨e1, s1, s2, q1, q2, q3⟩ := ih t' k rfl
      exact ⟨e1, s1, s2, .need h1 q1, q2, q3⟩
  | @imps l t1 e st h1 h2 ih =>
    intro t k hx
    cases t <;> simp only [T.bind, reduceCtorEq, T.imps.injEq] at hx
    case done e1 st1 => exact ⟨e1, st1, st1, .done, St.le_refl _, hx ▸ .imps h1 h2⟩
    case imps c' t' =>
      obtain ⟨rfl, rfl⟩ := hx
      obtain ⟨e1, s1, s2, q1, q2, q3⟩ := ih t' k rfl
      exact ⟨e1, s1, s2, .imps h1 q1, q2, q3⟩
  | @call f as bs k0 r bs' e st h1 h2 ih =>
    intro t k hx
    cases t <;> simp only [T.bind, reduceCtorEq, T.call.injEq] at hx
    case done e1 st1 => exact ⟨e1, st1, st1, .done, St.le_refl _, hx ▸ .call h1 h2⟩
    case call f' as' bs0 k' =>
      obtain ⟨rfl, rfl, rfl, rfl⟩ := hx
      obtain ⟨e1, s1, s2, q1, q2, q3⟩ := ih (k' r bs') k rfl
      exact ⟨e1, s1, s2, .call h1 q1, q2, q3⟩
  | @callG gs f as k0 r e st h1 h2 ih =>
    intro t k hx
    cases t <;> simp only [T.bind, reduceCtorEq, T.callG.injEq] at hx
    case done e1 st1 => exact ⟨e1, st1, st1, .done, St.le_refl _, hx ▸ .callG h1 h2⟩
    case callG gs' f' as' k' =>
      obtain ⟨rfl, rfl, rfl, rfl⟩ := hx
      obtain ⟨e1, s1, s2, q1, q2, q3⟩ := ih (k' r) k rfl
      exact ⟨e1, s1, s2, .callG h1 q1, q2, q3⟩
  | @loopX c st0 st0' k0 e1 st1 e st2 h1 h2 h3 h4 ih1 ih2 =>
    intro t k hx
    cases t <;> simp only [T.bind, reduceCtorEq, T.loop.injEq] at hx
    case done e1 st1 => exact ⟨e1, st1, st1, .done, St.le_refl _, hx ▸ .loopX h1 h2 h3 h4⟩
    case loop c' st' k' =>
      obtain ⟨rfl, rfl, rfl⟩ := hx
      obtain ⟨e1, s1, s2, q1, q2, q3⟩ := ih2 (k' _ _) k rfl
      exact ⟨e1, s1, s2, .loopX h1 h2 h3 q1, q2, q3⟩
  | @loopN c st0 st0' k0 st1 e st2 h1 h2 h4 ih1 ih2 =>
    intro t k hx
    cases t <;> simp only [T.bind, reduceCtorEq, T.loop.injEq] at hx
    case done e1 st1 => exact ⟨e1, st1, st1, .done, St.le_refl _, hx ▸ .loopN h1 h2 h4⟩
    case loop c' st' k' =>
      obtain ⟨rfl, rfl, rfl⟩ := hx
      obtain ⟨e1, s1, s2, q1, q2, q3⟩ := ih2 (.loop c st1 k') k rfl
      exact ⟨e1, s1, s2, .loopN h1 h2 q1, q2, q3⟩
  | @cutJ t0 k0 e1 st1 st1' e st h1 h2 h3 ih1 ih2 =>
    intro t k hx
    cases t <;> simp only [T.bind, reduceCtorEq, T.cut.injEq] at hx
    case done e1 st1 => exact ⟨e1, st1, st1, .done, St.le_refl _, hx ▸ .cutJ h1 h2 h3⟩
    case br b t u => obtain ⟨rfl, rfl⟩ := hx; exact ⟨_, _, _, h1, h2, h3⟩
    case cut t' k' =>
      obtain ⟨rfl, rfl⟩ := hx
      obtain ⟨e1, s1, s2, q1, q2, q3⟩ := ih2 (k' _ _) k rfl
      exact ⟨e1, s1, s2, .cutJ h1 h2 q1, q2, q3⟩
  | @cutT b t0 u0 k0 e st h1 h2 ih =>
    intro t k hx
    cases t <;> simp only [T.bind, reduceCtorEq, T.cut.injEq] at hx
    case done e1 st1 => exact ⟨e1, st1, st1, .done, St.le_refl _, hx ▸ .cutT h1 h2⟩
    case br b t u =>
      obtain ⟨hx, rfl⟩ := hx
      cases hx
      obtain ⟨e1, s1, s2, q1, q2, q3⟩ := ih t0 k0 rfl
      exact ⟨e1, s1, s2, .brT h1 q1, q2, q3⟩
    case cut t' k' =>
      obtain ⟨rfl, rfl⟩ := hx
      obtain ⟨e1, s1, s2, q1, q2, q3⟩ := ih (t0.bind k') k (bind_assoc _ _ _).symm
      exact ⟨e1, s1, s2, .cutT h1 q1, q2, q3⟩
  | @cutF b t0 u0 k0 e st h1 h2 ih =>
    intro t k hx
    cases t <;> simp only [T.bind, reduceCtorEq, T.cut.injEq] at hx
    case done e1 st1 => exact ⟨e1, st1, st1, .done, St.le_refl _, hx ▸ .cutF h1 h2⟩
    case br b t u =>
      obtain ⟨hx, rfl⟩ := hx
      cases hx
      obtain ⟨e1, s1, s2, q1, q2, q3⟩ := ih u0 k0 rfl
      exact ⟨e1, s1, s2, .brF h1 q1, q2, q3⟩
    case cut t' k' =>
      obtain ⟨rfl, rfl⟩ := hx
      obtain ⟨e1, s1, s2, q1, q2, q3⟩ := ih (u0.bind k') k (bind_assoc _ _ _).symm
      exact ⟨e1, s1, s2, .cutF h1 q1, q2, q3⟩
end Go.Ab
