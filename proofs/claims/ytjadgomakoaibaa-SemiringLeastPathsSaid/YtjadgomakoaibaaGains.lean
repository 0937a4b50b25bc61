/- The walks of the semiring of gains, and of its law. -/
import Derived.Test.YtjadgomakoaibaaMem
import Derived.Test.YtjadgomakoaibaaChecked
import Derived.Deep.RegionHeld3
import Derived.Deep.CutRange
import Derived.Test.YtjadgomakoaibaaCosts
namespace Go.Proofs.Ytjadgomakoaibaa
open Go.RowKit

/-- The argument, brought into its range. -/
def gCost (x : Int) : Int := min (max x (-1)) 4611686018427387904
/-- The sum. -/
def gAdd (a b : Int) : Int := max (gCost a) (gCost b)
/-- The product. -/
def gMul (a b : Int) : Int := if gCost a < 0 ∨ gCost b < 0 then -1 else min 4611686018427387904 (gCost a + gCost b)
theorem gCost_range (x : Int) : -1 ≤ gCost x ∧ gCost x ≤ 4611686018427387904 := by unfold gCost; omega

theorem cl_of {x : Int} (h : 0 ≤ x) (h2 : x ≤ 4611686018427387904) : cCost x = x := by unfold cCost; omega
end Go.Proofs.Ytjadgomakoaibaa
