/- The walks of rational.Sub and Cmp. -/
import Derived.Test.YtfggecdgnidhfaaDoorRatSum
namespace Go.Proofs.YtfggecdgnidhfaaDoor
open Go.RowKit

theorem boxes3 (w : World) (s : Bool) (A : Option Addr) (n c : Nat) (B : Option Addr) (m d : Nat) (t : Bool) (A2 : Option Addr) (n2 c2 : Nat) (B2 : Option Addr) (m2 d2 : Nat) :
    ∃ W, W = ((w.alloc (.cells #[.bool s, .slice A n c, .slice B m d] 33)).alloc (.cells #[.bool t, .slice A2 n2 c2, .slice B2 m2 d2] 33)).alloc (.cells #[.bool false, .slice none 0 0, .slice none 0 0] 33) ∧
      Below w.heap.size w W ∧ BoxQ W w.heap.size s A n c B m d ∧ BoxQ W (w.heap.size + 1) t A2 n2 c2 B2 m2 d2 ∧ BoxQ W (w.heap.size + 1 + 1) false none 0 0 none 0 0 := by
  refine ⟨_, rfl, (((Below.refl _ _).alloc (Nat.le_refl _) _).alloc (by simp) _).alloc (by simp; omega) _, ((BoxQ.new w _ _ _ _ _ _ _).below (below_alloc _ _)).below (below_alloc _ _), ?_, ?_⟩
  · have := ((BoxQ.new (w.alloc (.cells #[.bool s, .slice A n c, .slice B m d] 33)) t A2 n2 c2 B2 m2 d2).below (below_alloc _ (.cells #[.bool false, .slice none 0 0, .slice none 0 0] 33)))
    simpa using this
  · have := BoxQ.new ((w.alloc (.cells #[.bool s, .slice A n c, .slice B m d] 33)).alloc (.cells #[.bool t, .slice A2 n2 c2, .slice B2 m2 d2] 33)) false none 0 0 none 0 0
    simpa using this

end Go.Proofs.YtfggecdgnidhfaaDoor
