/- DivMod and Gcd as a law calls them: results with bounds on their lengths. -/
import Derived.Test.YtfggecdgnidhfaaDoorDivMod
namespace Go.Proofs.YtfggecdgnidhfaaDoor
open Go.RowKit

theorem gcd_lt_pow {x y n m : Nat} (hx : x < 4294967296 ^ n) (hy : y < 4294967296 ^ m) : Nat.gcd x y < 4294967296 ^ (n + m) := by
  have h1 : 4294967296 ^ n ≤ 4294967296 ^ (n + m) := pow_le_pow_limb (by omega)
  have h2 : 4294967296 ^ m ≤ 4294967296 ^ (n + m) := pow_le_pow_limb (by omega)
  rcases Nat.eq_zero_or_pos x with h0 | h0
  · subst h0
    rw [Nat.gcd_zero_left]
    exact Nat.lt_of_lt_of_le hy h2
  · exact Nat.lt_of_le_of_lt (Nat.gcd_le_left y h0) (Nat.lt_of_lt_of_le hx h1)
section
variable {w : World} {A B : Option Addr} {n c m d : Nat} {l k : List Nat}
theorem gcd1 (h : Rd w A n c l) (h' : Rd w B m d k) (hn : n ≤ 10000) (hm : m ≤ 10000) :
    Calls Tryd.prog 45 #[.slice A n c, .slice B m d] w (RetB (Nat.gcd (val l) (val k)) (n + m) w) :=
  (gcd_any _ _ _ _ _ _ _ _ _ h h' hn hm).mono fun _ _ hr => hr.b (gcd_lt_pow (val_lt_len h) (val_lt_len h'))
theorem rgcd1 (h : Rd w A n c l) (h' : Rd w B m d k) (hn : n ≤ 1000) (hm : m ≤ 1000) :
    Calls Tryd.prog 48 #[.slice A n c, .slice B m d] w (RetB (Nat.gcd (val l) (val k)) (n + m) w) :=
  (rgcd_any _ _ _ _ _ _ _ _ _ h h' hn hm).mono fun _ _ hr => hr.b (gcd_lt_pow (val_lt_len h) (val_lt_len h'))
/-- DivMod's results with bounds. -/
def RetDB (q r : Nat) (err : Int) (K L : Nat) (w : World) (x : Ending) (w' : World) : Prop :=
  ∃ A n c B m d, x = .returned (.tuple #[.slice A n c, .slice B m d, .int .i64 err]) ∧ Rd w' A n c (limbs q) ∧ Rd w' B m d (limbs r) ∧ Below w.heap.size w w' ∧ n ≤ K ∧ m ≤ L
theorem divmod1 (h : Rd w A n c l) (h' : Rd w B m d k) (hn : n ≤ 10000) (hm : m ≤ 10000) (hy : val k ≠ 0) :
    Calls Tryd.prog 46 #[.slice A n c, .slice B m d] w (RetDB (val l / val k) (val l % val k) 0 n m w) := by
  refine (divmod_ok _ _ _ _ _ _ _ _ _ h h' hn hm hy).mono ?_
  rintro e w' ⟨A1, n1, c1, B1, m1, d1, rfl, h1, h2, hb⟩
  refine ⟨A1, n1, c1, B1, m1, d1, rfl, h1, h2, hb, ?_, ?_⟩
  · rw [← h1.len]; exact length_limbs_le (Nat.lt_of_le_of_lt (Nat.div_le_self _ _) (val_lt_len h))
  · rw [← h2.len]; exact length_limbs_le (Nat.lt_trans (Nat.mod_lt _ (Nat.pos_of_ne_zero hy)) (val_lt_len h'))
end
end Go.Proofs.YtfggecdgnidhfaaDoor
