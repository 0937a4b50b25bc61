/- The walk of nat.Binomial. -/
import Derived.Test.YtfggecdgnidhfaaDoorTwo
namespace Go.Proofs.YtfggecdgnidhfaaDoor
open Go.RowKit

/-- The error of a binomial coefficient, and the number. -/
def binErr (n : Int) : Int := if n < 0 ∨ 4096 < n then 6 else 0
def binNum (n k : Int) : Nat := if (n < 0 ∨ 4096 < n) ∨ k < 0 then 0 else choose n.toNat k.toNat

theorem bin_bad {n k : Int} (h : n < 0 ∨ 4096 < n) : binErr n = 6 ∧ binNum n k = 0 := ⟨if_pos h, if_pos (.inl h)⟩
theorem bin_ok {n : Nat} (h : n ≤ 4096) : binErr (n : Int) = 0 := if_neg (by omega)
theorem bin_num {n k : Nat} (h : n ≤ 4096) : binNum (n : Int) (k : Int) = choose n k := by
  unfold binNum; rw [if_neg (by omega), Int.toNat_natCast, Int.toNat_natCast]
theorem bin_neg {n k : Int} (h : k < 0) : binNum n k = 0 := if_pos (.inr h)
theorem bin_gt {n k : Int} (h : n < k) : binNum n k = 0 := by
  unfold binNum
  split
  · rfl
  · exact choose_lt (by omega)

theorem choose_len_of {n k L : Nat} (h : n < 32 * L) : (limbs (choose n k)).length ≤ L :=
  length_limbs_pow2 (Nat.lt_of_le_of_lt (choose_le n k) (Nat.pow_lt_pow_right (by omega) h))
theorem choose_len {n k : Nat} (h : n ≤ 4096) : (limbs (choose n k)).length ≤ 129 := choose_len_of (by omega)
theorem bin_len (n k : Int) : (limbs (binNum n k)).length ≤ 129 := by
  unfold binNum
  split
  · rw [limbs_zero]; simp
  · exact choose_len (by omega)

/-- The two results. -/
def RetBin (n k : Int) (w : World) (x : Ending) (w' : World) : Prop :=
  ∃ A m c, x = .returned (.tuple #[.slice A m c, .int .i64 (binErr n)]) ∧ Rd w' A m c (limbs (binNum n k)) ∧ Below w.heap.size w w' ∧ m ≤ 129

theorem rd_lit {w : World} {x : Nat} (g : Nat) (hg : g = w.heap.size) (z : Int) (hz : z = (x : Int)) (hx : x < 4294967296) :
    Rd (w.alloc (.cells #[Value.int .u32 z] 40)) (some ⟨g, 0, none⟩) 1 1 [x] := by
  subst hg
  exact (own_one w 40 hz hx).rd

end Go.Proofs.YtfggecdgnidhfaaDoor
