/- The walks of the reference's small, Choose and Binomial. -/
import Derived.Test.YtfggecdgnidhfaaDoorBinom
namespace Go.Proofs.YtfggecdgnidhfaaDoor
open Go.RowKit

theorem shl_add_u64 (x y : Nat) (hx : x < 4294967296) (hy : y < 4294967296) : IntKind.u64.wrap (IntKind.u64.wrap ((x : Int) * 4294967296) + (y : Int)) = (x : Int) * 4294967296 + (y : Int) := by
  rw [IntWalk.u64_in ((x : Int) * 4294967296) (by omega), IntWalk.u64_in _ (by omega)]

end Go.Proofs.YtfggecdgnidhfaaDoor
