/- The walks of the semiring of costs, and of its law. -/
import Derived.Test.YtfggecdgnidhfaaDoorMem
import Derived.Test.YtfggecdgnidhfaaDoorChecked
import Derived.Deep.RegionHeld3
import Derived.Deep.CutRange
namespace Go.Proofs.YtfggecdgnidhfaaDoor
open Go.RowKit

/-- The argument, brought into its range. -/
def cCost (x : Int) : Int := min (max x (0)) 4611686018427387904
/-- The sum. -/
def cAdd (a b : Int) : Int := min (cCost a) (cCost b)
/-- The product. -/
def cMul (a b : Int) : Int := min 4611686018427387904 (cCost a + cCost b)
theorem cCost_range (x : Int) : 0 ≤ cCost x ∧ cCost x ≤ 4611686018427387904 := by unfold cCost; omega
/-- An int that is returned. -/
theorem ret_int {v : Value} {x y : Int} (hv : v = .int .i64 x) (h : x = y) : Ending.returned v = .returned (.int .i64 y) := by rw [hv, h]

end Go.Proofs.YtfggecdgnidhfaaDoor
