/- The walks of nat.DivMod and nat.Gcd. -/
import Derived.Test.YtjadgomakoaibaaLong
namespace Go.Proofs.Ytjadgomakoaibaa
open Go.RowKit

/-- DivMod's three results. -/
def RetDM (q r : Nat) (err : Int) (w : World) (x : Ending) (w' : World) : Prop :=
  ∃ A n c B m d, x = .returned (.tuple #[.slice A n c, .slice B m d, .int .i64 err]) ∧ Rd w' A n c (limbs q) ∧ Rd w' B m d (limbs r) ∧ Below w.heap.size w w'

theorem rd_nil_zero (w : World) : Rd w none 0 0 (limbs 0) := by rw [limbs_zero]; exact Rd.nil w

theorem limbs_len_pos {x : Nat} (h : x ≠ 0) : (limbs x).length ≠ 0 := by
  intro h0
  exact h (limbs_eq_nil.1 (List.eq_nil_of_length_eq_zero h0))

end Go.Proofs.Ytjadgomakoaibaa
