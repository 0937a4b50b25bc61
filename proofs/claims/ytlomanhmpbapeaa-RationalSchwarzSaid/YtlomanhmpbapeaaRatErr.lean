/- A rational with an error, as a region's value. -/
import Derived.Test.YtlomanhmpbapeaaRatDiv
import Derived.Test.YtlomanhmpbapeaaMonoL
namespace Go.Proofs.Ytlomanhmpbapeaa
open Go.RowKit

/-- A canonical rational, and no error. -/
def IsQE (q : Rat) (K : Nat) (v : Value) (w : World) : Prop := ∃ A n c B m d, v = .tuple #[.agg #[.bool (qneg q), .slice A n c, .slice B m d], .int .i64 0] ∧ CanQ w A n c B m d q K
theorem IsQE.lasting {q : Rat} {K : Nat} : ∀ v w w', Below w.heap.size w w' → IsQE q K v w → IsQE q K v w' := fun _ _ _ hb ⟨A, n, c, B, m, d, h1, h2⟩ => ⟨A, n, c, B, m, d, h1, h2.below hb⟩
end Go.Proofs.Ytlomanhmpbapeaa
