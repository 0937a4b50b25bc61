/- The walk of nat.digit. -/
import Derived.Test.YtonimfogmplgdaaAddMul
namespace Go.Proofs.Ytonimfogmplgdaa
open Go.RowKit

theorem shl_or_u64 (x y : Nat) (hx : x < 4294967296) (hy : y < 4294967296) : bits .or .u64 ((x : Int) * 4294967296) (y : Int) = ((x * 4294967296 + y : Nat) : Int) := by
  have h1 : (x : Int) * 4294967296 = ((x * 4294967296 : Nat) : Int) := by simp
  have h2 : x * 4294967296 ||| y = x * 4294967296 + y := by
    have := Nat.shiftLeft_add_eq_or_of_lt (a := x) (i := 32) (b := y) hy
    rw [Nat.shiftLeft_eq] at this
    exact this.symm
  rw [h1]
  show IntKind.u64.wrap ((BitVec.ofInt 64 ((x * 4294967296 : Nat) : Int) ||| BitVec.ofInt 64 (y : Int)).toNat : Int) = _
  rw [BitVec.toNat_or, BitVec.ofInt_natCast, BitVec.ofInt_natCast, BitVec.toNat_ofNat, BitVec.toNat_ofNat, Nat.mod_eq_of_lt (by omega), Nat.mod_eq_of_lt (by omega), h2]
  exact IntWalk.u64_in _ (by omega)

theorem mod_cast_small {x : Nat} (h : x < 4294967296) : (x : Int) % 4294967296 = (x : Int) := by omega

/-- nat.digit's two results. -/
def RetDigit (x d : Nat) (w : World) (e : Ending) (w' : World) : Prop :=
  ∃ A n c, e = .returned (.tuple #[.slice A n c, .int .u32 ((x % d : Nat) : Int)]) ∧ Rd w' A n c (limbs (x / d)) ∧ Below w.heap.size w w'

end Go.Proofs.Ytonimfogmplgdaa
