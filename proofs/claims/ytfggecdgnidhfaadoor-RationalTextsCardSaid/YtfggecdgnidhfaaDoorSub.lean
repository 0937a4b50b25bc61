/- The walk of nat.Sub. -/
import Derived.Test.YtfggecdgnidhfaaDoorCmp
namespace Go.Proofs.YtfggecdgnidhfaaDoor
open Go.RowKit

theorem wrap_u64' (n : Int) : IntKind.u64.wrap n = n % 18446744073709551616 := by simp [IntKind.wrap, IntKind.bits, IntKind.signed]

/-- nat.Sub's two results. -/
def RetSub (x y : Nat) (w : World) (e : Ending) (w' : World) : Prop :=
  ∃ A n c, e = .returned (.tuple #[.slice A n c, .int .i64 (if x < y then 6 else 0)]) ∧ Rd w' A n c (limbs (x - y)) ∧ Below w.heap.size w w'

theorem lim_eq_of_drop {a b : List Nat} {k : Nat} (h : a.drop k = b.drop k) : lim a k = lim b k := by
  have := congrArg (fun q => lim q 0) h
  simpa [getD_drop] using this

end Go.Proofs.YtfggecdgnidhfaaDoor
