/- Lists of lists of costs that are the same: the walk of sameInts; ints in a grid. -/
import Derived.Test.YtonimfogmplgdaaFits
namespace Go.Proofs.Ytonimfogmplgdaa
open Go.RowKit

/-- Costs. -/
def costC : Cells Int where
  rel z v _ := v = .int .i64 z ∧ 0 ≤ z ∧ z ≤ 4611686018427387904
  last _ _ _ _ _ h := h
  kept _ _ _ _ _ _ _ _ _ h := h
theorem RdV.costAt {w : World} {A : Option Addr} {n c : Nat} {xs : List Int} (h : RdV costC 0 w 1 A n c xs) {k : Nat} (hk : k < n) :
    ∃ b off, A = some ⟨b, off, none⟩ ∧ b < w.heap.size ∧ w.cell? ⟨b, off + k, none⟩ = some (.int .i64 (xs.getD k 0)) ∧ 0 ≤ xs.getD k 0 ∧ xs.getD k 0 ≤ 4611686018427387904 := by
  obtain ⟨b, off, v, h1, h2, h3, h4, h5, h6⟩ := h.at1 hk
  subst h4
  exact ⟨b, off, h1, h2, h3, h5, h6⟩

end Go.Proofs.Ytonimfogmplgdaa
