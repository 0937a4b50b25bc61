/- The walk of nat.Pow. -/
import Derived.Test.YtfggecdgnidhfaaDoorTwo
namespace Go.Proofs.YtfggecdgnidhfaaDoor
open Go.RowKit

theorem pow_big {N n M : Nat} (hN : N ≠ 0) (h : 32 * M ≤ (nbits N - 1) * n) : M < (limbs (N ^ n)).length := length_limbs_gt (pow_ge_of hN h)
theorem pow_len {N n M : Nat} (hn : n ≠ 0) (h : nbits N * n ≤ 32 * M) : (limbs (N ^ n)).length ≤ M := length_limbs_pow2 (pow_lt_of h hn)

/-- The error of a power: ErrRange (6), ErrBig (8), or OK (0). -/
def powErr (N : Nat) (n : Int) : Int := if n < 0 then 6 else if 4096 < (limbs (N ^ n.toNat)).length then 8 else 0
/-- The number that comes with it. -/
def powNum (N : Nat) (n : Int) : Nat := if powErr N n = 0 then N ^ n.toNat else 0

theorem powErr_neg {N : Nat} {n : Int} (h : n < 0) : powErr N n = 6 ∧ powNum N n = 0 := by
  have h1 : powErr N n = 6 := if_pos h
  exact ⟨h1, by unfold powNum; rw [h1]; rfl⟩
theorem powErr_big {N n : Nat} (h : 4096 < (limbs (N ^ n)).length) : powErr N (n : Int) = 8 ∧ powNum N (n : Int) = 0 := by
  have h1 : powErr N (n : Int) = 8 := by unfold powErr; rw [if_neg (by omega), Int.toNat_natCast, if_pos h]
  exact ⟨h1, by unfold powNum; rw [h1]; rfl⟩
theorem powErr_ok {N n : Nat} (h : (limbs (N ^ n)).length ≤ 4096) : powErr N (n : Int) = 0 ∧ powNum N (n : Int) = N ^ n := by
  have h1 : powErr N (n : Int) = 0 := by unfold powErr; rw [if_neg (by omega), Int.toNat_natCast, if_neg (by omega)]
  exact ⟨h1, by unfold powNum; rw [h1]; rfl⟩

/-- The two results of a power. -/
def RetPow (N : Nat) (n : Int) (w : World) (x : Ending) (w' : World) : Prop :=
  ∃ A k c, x = .returned (.tuple #[.slice A k c, .int .i64 (powErr N n)]) ∧ Rd w' A k c (limbs (powNum N n)) ∧ Below w.heap.size w w'

theorem and_one (k : Nat) (h : k < 9223372036854775808) : bits .and .i64 (k : Int) 1 = ((k % 2 : Nat) : Int) := by
  show IntKind.i64.wrap ((BitVec.ofInt 64 (k : Int) &&& BitVec.ofInt 64 1).toNat : Int) = _
  rw [BitVec.toNat_and, BitVec.ofInt_natCast, BitVec.toNat_ofNat, Nat.mod_eq_of_lt (by omega)]
  rw [show (BitVec.ofInt 64 1).toNat = 1 from rfl, Nat.and_one_is_mod, IntKind.wrap_i64]
  omega

theorem nbits_one {x : Nat} (h : nbits x = 1) : x = 1 := by
  have h1 := lt_nbits x
  rw [h] at h1
  have : x ≠ 0 := by rintro rfl; rw [nbits_zero] at h; cases h
  omega

theorem rd_one (w : World) (g : Nat) (hg : g = w.heap.size) : Rd (w.alloc (.cells #[Value.int .u32 1] 40)) (some ⟨g, 0, none⟩) 1 1 (limbs 1) :=
  rd_lit1 g hg 1 rfl (by omega) (by omega)

end Go.Proofs.YtfggecdgnidhfaaDoor
