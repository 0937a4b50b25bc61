/- The walk of nat.long. -/
import Derived.Test.YtjadgomakoaibaaStep
import Derived.Test.YtjadgomakoaibaaMathL
import Derived.StillTailTactics
import Derived.BigRegion
namespace Go.Proofs.Ytjadgomakoaibaa
open Go.RowKit

/-- Quotient and rest, in rows that need not be canonical. -/
def RetLong (q r : Nat) (w : World) (x : Ending) (w' : World) : Prop :=
  ∃ A n c o B m d p, x = .returned (.tuple #[.slice A n c, .slice B m d]) ∧ Rd w' A n c o ∧ Rd w' B m d p ∧ val o = q ∧ val p = r ∧ n ≤ 1000000 ∧ m ≤ 1000000 ∧ Below w.heap.size w w'

theorem or_shl_u64 (x y : Nat) (hx : x < 4294967296) (hy : y < 4294967296) : bits .or .u64 (y : Int) ((x : Int) * 4294967296) = ((y + 4294967296 * x : Nat) : Int) := by
  have h1 : (x : Int) * 4294967296 = ((x * 4294967296 : Nat) : Int) := by simp
  have h2 : y ||| x * 4294967296 = y + 4294967296 * x := by
    have := Nat.shiftLeft_add_eq_or_of_lt (a := x) (i := 32) (b := y) hy
    rw [Nat.shiftLeft_eq] at this
    rw [Nat.or_comm, show x * 4294967296 ||| y = x * 4294967296 + y from this.symm]
    omega
  rw [h1]
  show IntKind.u64.wrap ((BitVec.ofInt 64 (y : Int) ||| BitVec.ofInt 64 ((x * 4294967296 : Nat) : Int)).toNat : Int) = _
  rw [BitVec.toNat_or, BitVec.ofInt_natCast, BitVec.ofInt_natCast, BitVec.toNat_ofNat, BitVec.toNat_ofNat, Nat.mod_eq_of_lt (by omega), Nat.mod_eq_of_lt (by omega), h2]
  exact IntWalk.u64_in _ (by omega)

theorem limbs_ne {M m : Nat} (h : (limbs M).length = m + 1) : M ≠ 0 := by
  rintro rfl
  rw [limbs_zero] at h
  simp at h

/-- What a step wants, out of what the division's loop knows. -/
theorem long_ok {M T K j : Nat} {uu ua quo : List Nat} (hl : (limbs (M * T)).length = K + 2) (hd : LongAt ua quo uu (M * T) (j + 1)) (lu : Lims uu) (hj : j + (K + 2) + 1 ≤ uu.length) :
    StepOk (win uu j (K + 2)) (limbs (M * T)) (K + 2) := by
  have hV : M * T < 4294967296 ^ (K + 2) := by have := lt_pow_length (M * T); rwa [hl] at this
  refine ⟨by omega, win_len hj, hl, win_lims _ _ lu, Lims.limbs _, ?_, ?_⟩
  · have := top_limbs (limbs_ne hl)
    rwa [hl] at this
  · rw [val_limbs]
    have := window_after (k := K + 2) (long_zero lu hd.2.1 hV)
    unfold win
    rw [this]
    exact longAt_small lu (by omega) hd.2.1

theorem long_next {M T K j : Nat} {uu uu' ua quo : List Nat} (hl : (limbs (M * T)).length = K + 2) (hd : LongAt ua quo uu (M * T) (j + 1)) (lu : Lims uu) (hj : j < uu.length) (hq : j < quo.length) (hbe : Beside uu uu' j (K + 2)) (hlen : uu'.length = uu.length)
    (hval : val (win uu' j (K + 2)) = val (win uu j (K + 2)) % val (limbs (M * T))) :
    LongAt ua (quo.set j (val (win uu j (K + 2)) / val (limbs (M * T)))) uu' (M * T) j ∧ val (win uu j (K + 2)) / val (limbs (M * T)) < 4294967296 := by
  have hV : M * T < 4294967296 ^ (K + 2) := by have := lt_pow_length (M * T); rwa [hl] at this
  rw [val_limbs] at hval ⊢
  exact longAt_step hd lu hj hq hV hbe.1 hbe.2 hlen hval

theorem long_first {N M t K J n : Nat} {o : List Nat} (lo : Lims o) (hv : val o = N * 2 ^ t) (hN : (limbs N).length = n) (hM : (limbs M).length = K + 2) (hJ1 : n + 1 ≤ K + 2 + J) (hJ2 : K + 2 + J ≤ n + 1) :
    LongAt o (List.replicate J 0) o (M * 2 ^ t) J := by
  refine longAt_start (by simp) ?_
  have h1 := pow_length_le (n := M) (limbs_ne hM)
  rw [hM] at h1
  have h2 := lt_pow_length N
  rw [hN, show n = J + (K + 1) by omega] at h2
  have := long_top (vv := limbs (M * 2 ^ t)) (T := 2 ^ t) lo hv (by rw [val_limbs]) (Nat.pow_pos (by omega)) h1 h2
  rwa [val_limbs] at this

end Go.Proofs.Ytjadgomakoaibaa
