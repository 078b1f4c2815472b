/- Abstract interpreter: one operation. -/
import Derived.Test.YtggkkkpafealkaaAbA
namespace Go.Ab
def tsz (P : Program) (t : TypeId) : Option Nat := match P.info? t with | some i => some i.size | none => none
def ofV : V → A | .d x => .d x | .agg cs => .agg cs
def apRow (n : Nat) (f g : Nat → Nat → D) : Nat → Nat → D := fun i j => match Nat.blt i n with | true => f i j | false => g (i - n) j
/-- one row stands for all rows: so that what is appended one by one is a row's last one ever on -/
def oneRow (m : Nat) (g : Nat → Nat → D) : Nat → Nat → D := fun i j => match Nat.beq m 1 with | true => g 0 j | false => g i j
def bytesUp (f : Nat → Nat → D) (i : Nat) : Nat → Option (List Int)
  | 0 => some []
  | n + 1 => match f i 0, bytesUp f (i + 1) n with | .int .u8 x, some l => some (x :: l) | _, _ => none
def strB (xs : List Int) : ByteArray := ⟨(xs.map fun n => UInt8.ofNat n.toNat).toArray⟩
/-- what is owed of a divisor, or of a shift, is not owed of a constant that is not 0 -/
def binK (y : Operand) (Y : A) (r : Option Rs) : Option Rs :=
  match y, Y with
  | .const (.int _ (.ofNat (n + 1))), .d (.int _ b) => (match decide (b = Int.ofNat (n + 1)), r with | true, some r => some { r with cond := [] } | _, r => r)
  | _, _ => r
/-- a row of cells, reckoned to its end -/
def forceD {α : Type} : List D → (List D → α) → α
  | [], k => k []
  | x :: xs, k => forceD xs fun ys => k (x :: ys)
def rowsOf : A → Option (Nat × Nat × (Nat → Nat → D))
  | .d (.sl n sz f) => some (n, sz, f)
  | .own n sz f _ => some (n, sz, f)
  | .d .nil => some (0, 0, fun _ _ => .nil)
  | _ => none
def fillD (place : Nat → Option (Nat × Nat)) (cells : List D) : List (Nat × A) → Option (List D)
  | [] => some cells
  | (i, v) :: rest =>
    match place i, dataOf v with
    | some (off, size), some cs =>
      match Nat.beq cs.length size && Nat.ble (off + cs.length) cells.length with
      | true => fillD place (spliceD cells off cs) rest
      | false => none
    | _, _ => none
def fieldPlaces (P : Program) : List Field → Option (List (Nat × Nat))
  | [] => some []
  | f :: fs => match tsz P f.type, fieldPlaces P fs with | some s, some r => some ((f.offset, s) :: r) | _, _ => none
def zeroCellsOf (P : Program) (t : TypeId) : Option (List D) :=
  match P.info? t with
  | some i => match i.zero with | some z => ofCells z.cells.toList | none => none
  | none => none
def repD (n : Nat) (z : List D) : List D := match n with | 0 => [] | n + 1 => z ++ repD n z
def sliceB (lo hi : Option A) (n : Nat) : Option (List Bool × Nat × Nat) :=
  match lo, hi with
  | none, none => some ([], 0, n)
  | some (.d (.int _ l)), none => some ([decide (0 ≤ l), decide (l ≤ (n : Int))], l.toNat, n)
  | none, some (.d (.int _ h)) => some ([decide (0 ≤ h), decide (h ≤ (n : Int))], 0, h.toNat)
  | some (.d (.int _ l)), some (.d (.int _ h)) => some ([decide (0 ≤ l), decide (l ≤ h), decide (h ≤ (n : Int))], l.toNat, h.toNat)
  | _, _ => none
def partA (P : Program) (t : TypeId) (cs : List D) (off : Nat) : Option A :=
  match P.underlying t, tsz P t with
  | some d, some n =>
    match isAggD d with
    | true => match Nat.ble (off + n) cs.length with | true => some (.agg ((cs.drop off).take n)) | false => none
    | false => match cs[off]? with | some c => some (.d c) | none => none
  | _, _ => none
def eqFs (P : Program) (eq : TypeId → A → A → Option Bool) (xs ys : List D) : List Field → Option Bool
  | [] => some true
  | f :: fs =>
    match f.name == "_" with
    | true => eqFs P eq xs ys fs
    | false =>
      match partA P f.type xs f.offset, partA P f.type ys f.offset with
      | some a, some b => match eq f.type a b, eqFs P eq xs ys fs with | some r, some s => some (r && s) | _, _ => none
      | _, _ => none
def eqT (P : Program) : Nat → TypeId → A → A → Option Bool
  | 0, _, _, _ => none
  | d + 1, t, x, y =>
    match P.underlying t, x, y with
    | some (.int _), .d (.int k a), .d (.int k' b) => match decide (k = k') with | true => some (a == b) | false => none
    | some .bool, .d (.bool a), .d (.bool b) => some (a == b)
    | some .string, .d (.str a), .d (.str b) => some (a.data.toList == b.data.toList)
    | some (.struct fs), .agg xs, .agg ys => match P.stoodInHeld t with | true => none | false => eqFs P (eqT P d) xs ys fs.toList
    | _, _, _ => none
def eqV (P : Program) (op : BinOp) (t : TypeId) (x y : A) : Option Rs :=
  match P.eqGuardType P.depth t with
  | true => none
  | false =>
    match op with
    | .eql => match eqT P 10000 t x y with | some b => ok (.d (.bool b)) | none => none
    | .neq => match eqT P 10000 t x y with | some b => ok (.d (.bool (!b))) | none => none
    | _ => none
def capOf : A → Option Cp | .ptr k 0 => some (.ptr k) | .d x => some (.d x) | _ => none
def capsOf : List A → Option (List Cp)
  | [] => some []
  | a :: l => match capOf a, capsOf l with | some c, some cs => some (c :: cs) | _, _ => none
/-- one operation, its operands' values given -/
def aopV (P : Program) (mem : Nat → Option M) (ρ : Operand → A) (dst : Option Nat) : Op → Option Rs
  | .move x => ok (ρ x)
  | .assign x => ok (ρ x)
  | .nilCheck x => match ρ x with | .ptr k off => ok (.ptr k off) | .rp n c => ok (.rp n c) | .fn f cs => ok (.fn f cs) | _ => none
  | .alloc t =>
    match dst, zeroCellsOf P t with
    | some d, some z => match mem d, Nat.blt d 100000 with | none, true => some { val := .ptr d 0, wr := some (d, .box (z.map .d)) } | _, _ => none
    | _, _ => none
  | .box _ x =>
    match dst, cellsOf (ρ x) with
    | some d, some z => match mem d, Nat.blt d 100000 with | none, true => some { val := .ptr d 0, wr := some (d, .box z) } | _, _ => none
    | _, _ => none
  | .build t parts =>
    match P.underlying t, zeroCellsOf P t with
    | some (.struct fs), some z =>
      match fieldPlaces P fs.toList with
      | some pl => match fillD (fun i => pl[i]?) z (parts.toList.map fun p => (p.1, ρ p.2)) with | some cs => forceD cs fun cs => ok (.agg cs) | none => none
      | none => none
    | _, _ => none
  | .buildSlice t n parts =>
    match P.underlying t with
    | some (.slice e) =>
      match tsz P e, zeroCellsOf P e with
      | some sz, some z =>
        match Nat.ble 1 sz && Nat.beq z.length sz && Nat.ble (n * sz) 16777216 with
        | true => match fillD (fun i => some (i * sz, sz)) (repD n z) (parts.toList.map fun p => (p.1, ρ p.2)) with | some cs => forceD cs fun cs => ok (.d (.sl n sz (rowD cs sz))) | none => none
        | false => none
      | _, _ => none
    | _ => none
  | .load t x =>
    match ρ x, P.underlying t, tsz P t with
    | .ptr k off, some d, some n =>
      match mem k with
      | some (.box cs) =>
        match isAggD d with
        | true => match Nat.ble (off + n) cs.length, toDs ((cs.drop off).take n) with | true, some ds => some { val := .agg ds, rd := some k } | _, _ => none
        | false => match cs[off]? with | some a => some { val := a, rd := some k } | none => none
      | _ => none
    | .rp m c, some d, some n =>
      match isAggD d with
      | true => match Nat.ble n m with | true => ok (.agg (cellsUpTo n c)) | false => none
      | false => match Nat.blt 0 m with | true => ok (.d (c 0)) | false => none
    | _, _, _ => none
  | .store t x v =>
    match ρ x, cellsOf (ρ v), tsz P t with
    | .ptr k off, some vs, some n =>
      match mem k with
      | some (.box cs) => match Nat.beq vs.length n && Nat.ble (off + n) cs.length with | true => some { val := .undef, wr := some (k, .box (spliceA cs off vs)), rd := some k } | false => none
      | _ => none
    | _, _, _ => none
  | .binOp op t x y _ =>
    match ρ x, ρ y with
    | .d (.bool a), .d (.bool b) => eqV P op t (.d (.bool a)) (.d (.bool b))
    | .agg xs, .agg ys => eqV P op t (.agg xs) (.agg ys)
    | X, Y => binK y Y (binV op X Y)
  | .unOp op _ x => match unV op (ρ x) with | some v => ok v | none => none
  | .convert s t x =>
    match P.underlying s, P.underlying t, ρ x with
    | some (.int _), some (.int k), .d (.int _ n) => ok (.d (.int k (k.wrap n)))
    | some .string, some .string, .d (.str x) => ok (.d (.str x))
    | some (.slice e), some .string, .d (.sl n sz f) => match P.underlying e, Nat.beq sz 1, bytesUp f 0 n with | some (.int .u8), true, some xs => ok (.d (.str (strB xs))) | _, _, _ => none
    | _, _, _ => none
  | .makeFunc (.func f) first caps => match first.toList, capsOf (caps.toList.map ρ) with | [], some cs => ok (.fn f cs) | _, _ => none
  | .extract x i => match ρ x with | .tup vs => (match vs[i]? with | some v => ok (ofV v) | none => none) | _ => none
  | .fieldAddr t x f =>
    match P.underlying t with
    | some (.struct fs) =>
      match fs[f]? with
      | some fd =>
        match tsz P fd.type with
        | some (_ + 1) => match ρ x with | .ptr k off => ok (.ptr k (off + fd.offset)) | .rp n c => ok (.rp (n - fd.offset) fun j => c (fd.offset + j)) | _ => none
        | _ => none
      | none => none
    | _ => none
  | .field t x f =>
    match P.underlying t with
    | some (.struct fs) =>
      match fs[f]? with
      | some fd =>
        match ρ x with
        | .agg cs => match partA P fd.type cs fd.offset with | some v => ok v | none => none
        | _ => none
      | none => none
    | _ => none
  | .indexAddr t x i =>
    match P.underlying t with
    | some (.slice e) =>
      match tsz P e, rowsOf (ρ x), ρ i with
      | some s, some (n, sz, f), .d (.int _ q) => match Nat.beq sz s with | true => okIf [decide (0 ≤ q), decide (q < (n : Int))] (.rp sz (f q.toNat)) | false => none
      | _, _, _ => none
    | _ => none
  | .index t x i =>
    match P.underlying t, ρ x, ρ i with
    | some .string, .d (.str s), .d (.int _ q) => okIf [decide (0 ≤ q), decide (q < (s.size : Int))] (.d (.int .u8 (byteAt s q)))
    | _, _, _ => none
  | .slice t x lo hi mx =>
    match P.underlying t, ρ x, mx with
    | some .string, .d (.str s), none => match sliceB (lo.map ρ) (hi.map ρ) s.size with | some (c, l, h) => okIf c (.d (.str (s.extract l h))) | none => none
    | some (.slice e), a, none =>
      match rowsOf a, tsz P e with
      | some (n, sz, f), some s =>
        match Nat.beq sz s, sliceB (lo.map ρ) (hi.map ρ) n with
        | true, some (c, l, h) => okIf c (.d (.sl (h - l) sz fun i j => f (l + i) j))
        | _, _ => none
      | _, _ => none
    | _, _, _ => none
  | .call c =>
    match c.callee, c.args.toList, c.argTypes.toList with
    | .builtin .len, [x], [t] =>
      match P.underlying t, ρ x with
      | some .string, .d (.str s) => ok (.d (.int .i64 s.size))
      | some (.slice _), a => match rowsOf a with | some (n, _, _) => ok (.d (.int .i64 n)) | none => none
      | _, _ => none
    | .builtin .max, [x, y], _ => match ρ x, ρ y with | .d (.int k a), .d (.int _ b) => ok (.d (.int k (if b > a then b else a))) | _, _ => none
    | .builtin .min, [x, y], _ => match ρ x, ρ y with | .d (.int k a), .d (.int _ b) => ok (.d (.int k (if b < a then b else a))) | _, _ => none
    | .builtin .append, [s, x], [t, t'] =>
      match P.underlying t, Nat.beq t t' with
      | some (.slice e), true =>
        match P.info? e, zeroCellsOf P e, rowsOf (ρ x) with
        | some i, some z, some (m, sz', g) =>
          match Nat.ble 1 i.size && (Nat.beq z.length i.size && Nat.beq sz' i.size) with
          | true =>
            match ρ s with
            | .d .nil =>
              match dst with
              | some d => match mem d with | none => some { val := .own m i.size (oneRow m g) d, wr := some (d, .chain m), cond := [decide (m * i.bytes ≤ 140737488355328), decide (m ≤ 9223372036854775807)] } | some _ => none
              | none => none
            | .own n sz f k =>
              match mem k with
              | some (.chain u) => some { val := .own (n + m) i.size (apRow n f (oneRow m g)) k, wr := some (k, .chain (n + m)), rd := some k, cond := [Nat.beq sz i.size, decide (n = u), decide ((n + m) * i.bytes ≤ 140737488355328), decide (n + m ≤ 9223372036854775807)] }
              | _ => none
            | _ => none
          | false => none
        | _, _, _ => none
      | _, _ => none
    | _, _, _ => none
  | _ => none
def strip : A → A | .opt _ a => a | a => a
def gOf : A → List Bool | .opt g _ => g | _ => []
/-- what is owed where a value that is there only under a guard is used under another one -/
def impOf (gs : List Bool) (a : A) : List (List Bool × List Bool) := match gOf a with | [] => [] | g :: l => [(gs, g :: l)]
def gOfs (st : St) (gs : List Bool) : List Operand → List (List Bool × List Bool) | [] => [] | x :: xs => impOf gs (st.ev x) ++ gOfs st gs xs
def guardAll (gs : List Bool) (cs : List Bool) : List Bool := match gs with | [] => cs | g :: l => cs.map fun c => !(allB (g :: l)) || c
def isPick : Op → Option (Operand × Operand × Operand) | .pick c a b => some (c, a, b) | _ => none
/-- a choice between two; 'and', 'or' where one of them is a constant -/
def pickO (a b : Operand) (bc : Bool) (x y : A) : Option A :=
  match a, b, x, y with
  | _, .const (.bool false), .d (.bool x), .d (.bool false) => some (.d (.bool (bc && x)))
  | .const (.bool true), _, .d (.bool true), .d (.bool y) => some (.d (.bool (bc || y)))
  | _, _, x, y => pickV bc x y
/-- a value that was not made, as its guard did not hold -/
def skipped : A → Bool | .opt _ .undef => true | _ => false
/-- one operation, in a state, under a guard -/
def aopS (P : Program) (st : St) (gs : List Bool) (dst : Option Nat) (op : Op) : Option Rs :=
  match isPick op with
  | some (c, a, b) =>
    match strip (st.ev c) with
    | .d (.bool bc) =>
      match skipped (st.ev a), skipped (st.ev b) with
      | true, _ => some { val := strip (st.ev b), cond := guardAll gs [!bc], imps := impOf gs (st.ev c) ++ impOf ((!bc) :: gOf (st.ev c)) (st.ev b) }
      | _, true => some { val := strip (st.ev a), cond := guardAll gs [bc], imps := impOf gs (st.ev c) ++ impOf (bc :: gOf (st.ev c)) (st.ev a) }
      | _, _ =>
        match pickO a b bc (strip (st.ev a)) (strip (st.ev b)) with
        | some v => some { val := v, imps := impOf gs (st.ev c) ++ (impOf (bc :: gOf (st.ev c)) (st.ev a) ++ impOf ((!bc) :: gOf (st.ev c)) (st.ev b)) }
        | none => none
    | _ => none
  | none =>
    match aopV P st.mem (fun x => strip (st.ev x)) dst op with
    | some r => some { r with cond := guardAll gs r.cond, imps := gOfs st gs op.operands.toList }
    | none => none
/-- under which guard an operation stands -/
def guardOf (st : St) (ops : Array Oper) (o : Oper) : Option (List Bool) :=
  match o.guard with
  | none => some []
  | some (j, want) =>
    match ops[j]? with
    | some oj =>
      match oj.dst with
      | some t =>
        match st.sl t, want with
        | .d (.bool b), true => some [b]
        | .d (.bool b), false => some [!b]
        | .opt gs (.d (.bool b)), true => some (b :: gs)
        | .opt gs (.d (.bool b)), false => some ((!b) :: gs)
        | _, _ => none
      | none => none
    | none => none
def aop (P : Program) (ops : Array Oper) (st : St) (o : Oper) : Option Rs :=
  match guardOf st ops o with
  | some [] => aopS P st [] o.dst o.op
  | some (g :: gs) =>
    match aopS P st (g :: gs) o.dst o.op with
    | some r => match r.wr with | none => some { val := .opt (g :: gs) r.val, rd := r.rd, cond := r.cond, imps := r.imps } | some _ => none
    | none => none
  | none => none
def Rs.app (r : Rs) (st : St) (dst : Option Nat) : St := (match r.wr with | none => st | some (k, m) => st.set k m).put dst r.val
end Go.Ab
