/- How the answer of math/bits.Len32 stands to the number of binary digits. -/
import Derived.Test.YtjadgomakoaibaaMem
import Derived.Test.YtjadgomakoaibaaChecked
import Derived.Lib.Strings
import Derived.Lib.Slices
import Derived.Lib.Small
import Derived.Lib.Walk
import Derived.Lib.BitFns
namespace Go.Proofs.Ytjadgomakoaibaa

/-- The shelf's count of binary digits is this file's. -/
theorem bitLen_nbits (x : Nat) (hx : x < 4294967296) : Lib.bitLen x = nbits x := by
  by_cases h0 : x = 0
  · subst h0; rfl
  · have h1 := two_pow_nbits h0
    have h2 := lt_nbits x
    have hn : nbits x ≠ 0 := by rw [Ne, nbits_eq_zero]; exact h0
    have h3 := Lib.bitLen_shift (nbits x - 1) x h1 (by omega)
    have h4 : x / 2 ^ (nbits x - 1) = 1 := by
      rw [Nat.div_eq_iff (Nat.two_pow_pos _)]
      obtain ⟨m, hm⟩ : ∃ m, nbits x = m + 1 := ⟨nbits x - 1, by omega⟩
      rw [hm] at h1 h2 ⊢
      simp only [Nat.add_sub_cancel] at h1 ⊢
      rw [Nat.pow_succ] at h2
      omega
    rw [h3, h4]
    have : Lib.bitLen 1 = 1 := by decide
    omega

end Go.Proofs.Ytjadgomakoaibaa
