/- Plain facts: numbers that do not go round; texts as rows of bytes. -/
import Derived.Test.YtggkkkpafealkaaAbV1
namespace Po
open Go Go.Ab
theorem w64 {x : Int} (h1 : -9223372036854775808 ≤ x) (h2 : x ≤ 9223372036854775807) : IntKind.i64.wrap x = x := by
  simp [IntKind.wrap, IntKind.signed, IntKind.bits]; omega
theorem wu64 {x : Int} (h1 : 0 ≤ x) (h2 : x < 18446744073709551616) : IntKind.u64.wrap x = x := by
  simp [IntKind.wrap, IntKind.signed, IntKind.bits]; omega
theorem wu8 {x : Int} (h1 : 0 ≤ x) (h2 : x < 256) : IntKind.u8.wrap x = x := by
  simp [IntKind.wrap, IntKind.signed, IntKind.bits]; omega
theorem wtd {n c : Int} (h0 : 0 ≤ n) (h1 : n ≤ 9223372036854775807) (hc : 0 ≤ c) : IntKind.i64.wrap (n.tdiv c) = n.tdiv c := by
  have a := Int.tdiv_nonneg h0 hc
  have b := Int.tdiv_le_self c h0
  exact w64 (by omega) (by omega)
abbrev Bs := List UInt8
/-- a row of bytes as a text -/
def ofL (l : Bs) : ByteArray := ⟨⟨l⟩⟩
theorem ofL_app (a b : Bs) : ofL a ++ ofL b = ofL (a ++ b) := by
  apply ByteArray.ext; apply Array.ext'; simp [ofL]
theorem ofL_extract (l : Bs) (i j : Nat) : (ofL l).extract i j = ofL ((l.drop i).take (j - i)) := by
  apply ByteArray.ext; apply Array.ext'; simp [ofL, ByteArray.data_extract, List.extract_eq_take_drop]
theorem strB_one (x : Int) : strB [x] = ofL [UInt8.ofNat x.toNat] := rfl
theorem size_ofL (l : Bs) : (ofL l).size = l.length := rfl
abbrev i64 (n : Int) : A := .d (.int .i64 n)
abbrev u8 (n : Int) : A := .d (.int .u8 n)
abbrev u64 (n : Int) : A := .d (.int .u64 n)
abbrev bo (b : Bool) : A := .d (.bool b)
abbrev tx (l : Bs) : A := .d (.str (ofL l))
/-- the byte at a place -/
def at_ (l : Bs) (i : Int) : Int := ((l.getD i.toNat 0).toNat : Int)
theorem byteAt_ofL (l : Bs) (i : Int) : byteAt (ofL l) i = at_ l i := rfl
theorem drop_at {l : Bs} {i : Int} (h0 : 0 ≤ i) (h : i < l.length) : l.drop i.toNat = l.getD i.toNat 0 :: l.drop (i.toNat + 1) := by
  have h : i.toNat < l.length := by omega
  rw [List.drop_eq_getElem_cons h]; simp [h]
end Po
