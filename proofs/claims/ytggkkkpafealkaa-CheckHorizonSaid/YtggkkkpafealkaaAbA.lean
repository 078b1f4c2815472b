/- Abstract interpreter: values, states, operations. -/
import Derived.Orders
import Derived.Tactics
import Derived.Laws.AppendOwn
import Derived.Laws.NewBlocks
import Derived.WideLaws
namespace Go.Ab
inductive D where
  | int (k : IntKind) (n : Int)
  | bool (b : Bool)
  | str (s : ByteArray)
  | nil
  | nilp
  | sl (n sz : Nat) (f : Nat → Nat → D)
inductive V where
  | d (x : D)
  | agg (cs : List D)
inductive Cp where
  | d (x : D)
  | ptr (k : Nat)
inductive A where
  | undef
  | d (x : D)
  | agg (cs : List D)
  | tup (vs : List V)
  | ptr (k off : Nat)
  | rp (n : Nat) (c : Nat → D)
  | own (n sz : Nat) (f : Nat → Nat → D) (t : Nat)
  | fn (f : Nat) (caps : List Cp)
  | opt (gs : List Bool) (a : A)
/-- all of them -/
def allB : List Bool → Bool | [] => true | b :: l => b && allB l
inductive M where
  | box (cs : List A)
  | chain (u : Nat)
structure St where
  nt : Nat
  sl : Nat → A
  mem : Nat → Option M
def upd {α : Type} (f : Nat → α) (k : Nat) (v : α) : Nat → α := fun t => match Nat.beq t k with | true => v | false => f t
def St.put (st : St) (dst : Option Nat) (v : A) : St :=
  match dst with
  | none => st
  | some d => match Nat.blt d st.nt with | true => { st with sl := upd st.sl d v } | false => st
def St.set (st : St) (k : Nat) (m : M) : St := { st with mem := upd st.mem k (some m) }
/-- the abstract value of a constant cell -/
def ofCell : Value → Option D
  | .int k n => some (.int k n)
  | .bool b => some (.bool b)
  | .string s => some (.str s)
  | .slice none 0 0 => some .nil
  | .pointer none => some .nilp
  | _ => none
def ofCells : List Value → Option (List D)
  | [] => some []
  | v :: vs => match ofCell v, ofCells vs with | some d, some ds => some (d :: ds) | _, _ => none
def ofVal : Value → A
  | .agg cs => match ofCells cs.toList with | some ds => .agg ds | none => .undef
  | v => match ofCell v with | some d => .d d | none => .undef
def St.ev (st : St) : Operand → A
  | .tmp t => st.sl t
  | .const v => ofVal v
  | .func f => .fn f []
  | .global _ => .undef
def toD : A → Option D
  | .d x => some x
  | .own n sz f _ => some (.sl n sz f)
  | _ => none
def toDs : List A → Option (List D)
  | [] => some []
  | a :: as => match toD a, toDs as with | some d, some ds => some (d :: ds) | _, _ => none
/-- the cells of a value that is stored: one cell, or those of a struct -/
def cellsOf : A → Option (List A)
  | .d x => some [.d x]
  | .agg cs => some (cs.map .d)
  | .own n sz f t => some [.own n sz f t]
  | .ptr k off => some [.ptr k off]
  | .fn f caps => some [.fn f caps]
  | _ => none
/-- the cells of a value as data -/
def dataOf : A → Option (List D)
  | .d x => some [x]
  | .agg cs => some cs
  | .own n sz f _ => some [.sl n sz f]
  | _ => none
def spliceA (cs : List A) (off : Nat) (vs : List A) : List A := match vs with | [] => cs | v :: vs => spliceA (cs.set off v) (off + 1) vs
def spliceD (cs : List D) (off : Nat) (vs : List D) : List D := match vs with | [] => cs | v :: vs => spliceD (cs.set off v) (off + 1) vs
def isAggD : TypeDesc → Bool | .struct _ | .array _ _ => true | _ => false
/-- what an operation comes to: its value, the memory it writes and reads, and a condition that is owed -/
structure Rs where
  val : A
  wr : Option (Nat × M) := none
  rd : Option Nat := none
  cond : List Bool := []
  imps : List (List Bool × List Bool) := []
abbrev ok (v : A) : Option Rs := some { val := v }
abbrev okIf (c : List Bool) (v : A) : Option Rs := some { val := v, cond := c }
def byteAt (s : ByteArray) (i : Int) : Int := ((s.data.toList.getD i.toNat 0).toNat : Int)
def rowD (cs : List D) (sz : Nat) : Nat → Nat → D := fun i j => cs.getD (i * sz + j) .nil
def cellsUpTo (n : Nat) (c : Nat → D) : List D := (List.range n).map c
def pickV (b : Bool) : A → A → Option A
  | .d (.bool x), .d (.bool y) => some (.d (.bool (match b with | true => x | false => y)))
  | .d (.int k x), .d (.int k' y) => (match decide (k = k') with | true => some (.d (.int k (match b with | true => x | false => y))) | false => none)
  | .d (.str x), .d (.str y) => some (.d (.str (match b with | true => x | false => y)))
  | _, _ => none
def binI (op : BinOp) (k : IntKind) (a b : Int) : Option (D × List Bool) :=
  match op with
  | .add => some (.int k (k.wrap (a + b)), [])
  | .sub => some (.int k (k.wrap (a - b)), [])
  | .mul => some (.int k (k.wrap (a * b)), [])
  | .quo => some (.int k (k.wrap (a.tdiv b)), [b != 0])
  | .rem => some (.int k (a.tmod b), [b != 0])
  | .eql => some (.bool (a == b), [])
  | .neq => some (.bool (a != b), [])
  | .lss => some (.bool (decide (a < b)), [])
  | .leq => some (.bool (decide (a ≤ b)), [])
  | .gtr => some (.bool (decide (a > b)), [])
  | .geq => some (.bool (decide (a ≥ b)), [])
  | .and => some (.int k (k.wrap (BitVec.ofInt k.bits a &&& BitVec.ofInt k.bits b).toNat), [])
  | .or => some (.int k (k.wrap (BitVec.ofInt k.bits a ||| BitVec.ofInt k.bits b).toNat), [])
  | .xor => some (.int k (k.wrap (BitVec.ofInt k.bits a ^^^ BitVec.ofInt k.bits b).toNat), [])
  | .andNot => some (.int k (k.wrap (BitVec.ofInt k.bits a &&& ~~~(BitVec.ofInt k.bits b)).toNat), [])
  | _ => none
def binS (op : BinOp) (x y : ByteArray) : Option (D × List Bool) :=
  match op with
  | .add => some (.str (x ++ y), [decide (x.size + y.size ≤ 9223372036854775807)])
  | .eql => some (.bool (x.data.toList == y.data.toList), [])
  | .neq => some (.bool (!(x.data.toList == y.data.toList)), [])
  | .lss => some (.bool (Op.bytesLess x.data.toList y.data.toList), [])
  | .geq => some (.bool (!Op.bytesLess x.data.toList y.data.toList), [])
  | _ => none
def binV (op : BinOp) : A → A → Option Rs
  | .d (.int k a), .d (.int k' b) =>
    match op with
    | .shl => okIf [decide (0 ≤ b)] (.d (.int k (k.wrap (a * 2 ^ min b.toNat k.bits))))
    | .shr => okIf [decide (0 ≤ b)] (.d (.int k (a.fdiv (2 ^ min b.toNat k.bits))))
    | _ => match decide (k = k') with | true => (match binI op k a b with | some (v, c) => okIf c (.d v) | none => none) | false => none
  | .d (.str a), .d (.str b) => match binS op a b with | some (v, c) => okIf c (.d v) | none => none
  | _, _ => none
def unV (op : UnOp) : A → Option A
  | .d (.bool b) => match op with | .not => some (.d (.bool (!b))) | _ => none
  | .d (.int k n) => match op with | .neg => some (.d (.int k (k.wrap (0 - n)))) | _ => none
  | _ => none
end Go.Ab
