/- The walk of the reference's Pow. -/
import Derived.Test.YtfggecdgnidhfaaDoorPow
namespace Go.Proofs.YtfggecdgnidhfaaDoor
open Go.RowKit

/-- A power of 2. -/
def IsPow2 (P : Nat) : Prop := ∃ j, P = 2 ^ j
theorem IsPow2.half {P : Nat} (h : IsPow2 P) (h1 : 1 < P) : IsPow2 (P / 2) ∧ P = 2 * (P / 2) := by
  obtain ⟨j, rfl⟩ := h
  cases j with
  | zero => simp at h1
  | succ j =>
    have e : 2 ^ (j + 1) / 2 = 2 ^ j := by rw [Nat.pow_succ]; omega
    rw [e]
    exact ⟨⟨j, rfl⟩, by rw [Nat.pow_succ]; omega⟩

theorem pow_step (N n d : Nat) : N ^ (n / (2 * d)) * N ^ (n / (2 * d)) * (if n / d % 2 = 1 then N else 1) = N ^ (n / d) := by
  have e1 : n / (2 * d) = n / d / 2 := by rw [Nat.mul_comm, Nat.div_div_eq_div_mul]
  rw [e1, ← Nat.pow_add]
  by_cases h : n / d % 2 = 1
  · rw [if_pos h, ← Nat.pow_succ]; congr 1; omega
  · rw [if_neg h, Nat.mul_one]; congr 1; omega

theorem limbs_pow_mono {N a b : Nat} (hN : N ≠ 0) (h : a ≤ b) : (limbs (N ^ a)).length ≤ (limbs (N ^ b)).length :=
  length_limbs_mono (Nat.pow_le_pow_right (Nat.pos_of_ne_zero hN) h)

end Go.Proofs.YtfggecdgnidhfaaDoor
