/- The walks of Int, of the comparison of lists, and of the look at lengths. -/
import Derived.Test.YtlomanhmpbapeaaForms3
namespace Go.Proofs.Ytlomanhmpbapeaa
open Go.RowKit

/-- Int's two results. -/
def intNum (N : Nat) : Int := if N < 9223372036854775808 then (N : Int) else 0
def intOk (N : Nat) : Bool := decide (N < 9223372036854775808)
theorem int_yes {N : Nat} (h : N < 9223372036854775808) : Value.tuple #[.int .i64 (intNum N), .bool (intOk N)] = .tuple #[.int .i64 (N : Int), .bool true] := by
  rw [intNum, if_pos h, intOk, decide_eq_true h]
theorem int_no {N : Nat} (h : ¬ N < 9223372036854775808) : Value.tuple #[.int .i64 (intNum N), .bool (intOk N)] = .tuple #[.int .i64 0, .bool false] := by
  rw [intNum, if_neg h, intOk, decide_eq_false h]

theorem ret_int2 {a b : Int} (h : a = b) (x : Value) : Ending.returned (.tuple #[.int .i64 a, x]) = .returned (.tuple #[.int .i64 b, x]) := by rw [h]

theorem shl_or (x y : Nat) (hx : x < 2147483648) (hy : y < 4294967296) : bits .or .i64 ((x : Int) * 4294967296) (y : Int) = ((x * 4294967296 + y : Nat) : Int) := by
  have h1 : (x : Int) * 4294967296 = ((x * 4294967296 : Nat) : Int) := by simp
  have h2 : x * 4294967296 ||| y = x * 4294967296 + y := by
    have := Nat.shiftLeft_add_eq_or_of_lt (a := x) (i := 32) (b := y) hy
    rw [Nat.shiftLeft_eq] at this
    exact this.symm
  rw [h1]
  show IntKind.i64.wrap ((BitVec.ofInt 64 ((x * 4294967296 : Nat) : Int) ||| BitVec.ofInt 64 (y : Int)).toNat : Int) = _
  rw [BitVec.toNat_or, BitVec.ofInt_natCast, BitVec.ofInt_natCast, BitVec.toNat_ofNat, BitVec.toNat_ofNat, Nat.mod_eq_of_lt (by omega), Nat.mod_eq_of_lt (by omega), h2, IntKind.wrap_i64]
  omega

end Go.Proofs.Ytlomanhmpbapeaa
