/- The walks of LeadingZeros32 and of nat.shift. -/
import Derived.Test.YtjadgomakoaibaaRefDiv
namespace Go.Proofs.Ytjadgomakoaibaa
open Go.RowKit

theorem take_set_snoc (o : List Nat) (j x : Nat) (h : j < o.length) : (o.set j x).take (j + 1) = o.take j ++ [x] := by
  rw [List.take_add_one, List.take_set_of_le (Nat.le_refl _)]
  simp [h]
theorem shl_or_any {x r t : Nat} (hx : x < 4294967296) (hr : r < 2 ^ t) (ht : t < 32) :
    x * 2 ^ t + r < 18446744073709551616 ∧ (x * 2 ^ t + r) / 4294967296 < 2 ^ t ∧ bits .or .u64 (IntKind.u64.wrap ((x : Int) * 2 ^ t)) (r : Int) = ((x * 2 ^ t + r : Nat) : Int) := by
  have h1 : 2 ^ t ≤ 2 ^ 31 := Nat.pow_le_pow_right (by omega) (by omega)
  have h2 : x * 2 ^ t ≤ 4294967295 * 2 ^ t := Nat.mul_le_mul (by omega) (Nat.le_refl _)
  have e : (x : Int) * 2 ^ t = ((x * 2 ^ t : Nat) : Int) := by simp
  have h3 : x * 2 ^ t ||| r = x * 2 ^ t + r := by
    have := Nat.shiftLeft_add_eq_or_of_lt (a := x) (i := t) (b := r) hr
    rw [Nat.shiftLeft_eq] at this
    exact this.symm
  rw [e]
  generalize 2 ^ t = p at *
  generalize x * p = y at *
  refine ⟨by omega, by omega, ?_⟩
  rw [IntWalk.u64_in (y : Int) (by omega)]
  show IntKind.u64.wrap ((BitVec.ofInt 64 (y : Int) ||| BitVec.ofInt 64 (r : Int)).toNat : Int) = _
  rw [BitVec.toNat_or, BitVec.ofInt_natCast, BitVec.ofInt_natCast, BitVec.toNat_ofNat, BitVec.toNat_ofNat, Nat.mod_eq_of_lt (by omega), Nat.mod_eq_of_lt (by omega), h3]
  exact IntWalk.u64_in _ (by omega)

/-- A shifted number in a row of the call's own. -/
def RetShift (N n : Nat) (w : World) (x : Ending) (w' : World) : Prop :=
  ∃ A c o, x = .returned (.slice A (n + 1) c) ∧ Own w' w.heap.size 49 A (n + 1) c o ∧ val o = N ∧ Below w.heap.size w w'

end Go.Proofs.Ytjadgomakoaibaa
