/- The walk of slices.Equal over two rows of limbs. -/
import Derived.Test.YtjadgomakoaibaaIntSums
namespace Go.Proofs.Ytjadgomakoaibaa
open Go.RowKit

theorem lim_take {l k : List Nat} {j : Nat} (h : l.take j = k.take j) (hl : j < l.length) (hk : j < k.length) (he : lim l j = lim k j) : l.take (j + 1) = k.take (j + 1) := by
  rw [List.take_succ_eq_append_getElem hl, List.take_succ_eq_append_getElem hk, h]
  have : l[j] = k[j] := by
    unfold lim at he
    simpa [List.getD_eq_getElem?_getD, hl, hk] using he
  rw [this]
theorem ne_of_lim {l k : List Nat} {j : Nat} (he : lim l j ≠ lim k j) : decide (l = k) = false := decide_eq_false fun h => he (by rw [h])

end Go.Proofs.Ytjadgomakoaibaa
