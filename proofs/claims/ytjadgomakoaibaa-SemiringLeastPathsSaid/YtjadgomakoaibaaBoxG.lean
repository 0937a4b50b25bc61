/- The box of a layered graph with numbers. -/
import Derived.Test.YtjadgomakoaibaaPathK
namespace Go.Proofs.Ytjadgomakoaibaa
open Go.RowKit
/-- The box of a layered graph with numbers. -/
theorem boxG (w : World) (AW : Option Addr) (nW cW : Nat) (AE : Option Addr) (nE cE : Nat) (A : Option Addr) (n c : Nat) :
    ∃ W0, W0 = w.alloc (.cells #[.slice AW nW cW, .slice AE nE cE, .slice A n c] 28) ∧ Below w.heap.size w W0 ∧ w.heap.size < W0.heap.size ∧
      W0.cell? ⟨w.heap.size, 0, none⟩ = some (.slice AW nW cW) ∧ W0.cell? ⟨w.heap.size, 1, none⟩ = some (.slice AE nE cE) ∧ W0.cell? ⟨w.heap.size, 2, none⟩ = some (.slice A n c) :=
  ⟨_, rfl, below_alloc w _, by simp, by rw [cell_of_row _ _ _ _ _ _ (heap_alloc_new w _)]; rfl, by rw [cell_of_row _ _ _ _ _ _ (heap_alloc_new w _)]; rfl, by rw [cell_of_row _ _ _ _ _ _ (heap_alloc_new w _)]; rfl⟩

end Go.Proofs.Ytjadgomakoaibaa
