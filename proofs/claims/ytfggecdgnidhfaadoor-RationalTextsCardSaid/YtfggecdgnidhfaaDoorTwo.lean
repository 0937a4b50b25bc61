/- The contracts as a law calls them: two terms, results with bounds on their lengths, comparisons of numbers. -/
import Derived.Test.YtfggecdgnidhfaaDoorAddMul
import Derived.Test.YtfggecdgnidhfaaDoorRefAdd
import Derived.Test.YtfggecdgnidhfaaDoorSub
import Derived.Test.YtfggecdgnidhfaaDoorDigit
namespace Go.Proofs.YtfggecdgnidhfaaDoor
open Go.RowKit

/-- A call that returns a slice with the number N, of at most K limbs. -/
def RetB (N K : Nat) (w : World) (x : Ending) (w' : World) : Prop :=
  ∃ A n c, x = .returned (.slice A n c) ∧ Rd w' A n c (limbs N) ∧ Below w.heap.size w w' ∧ n ≤ K

theorem RetNat.b {N K : Nat} {w : World} {x : Ending} {w' : World} (h : RetNat N w x w') (hK : N < 4294967296 ^ K) : RetB N K w x w' := by
  obtain ⟨A, n, c, hx, hr, hb⟩ := h
  exact ⟨A, n, c, hx, hr, hb, by have := length_limbs_le hK; have := hr.len; omega⟩

theorem val_lt_len {w : World} {A : Option Addr} {n c : Nat} {l : List Nat} (h : Rd w A n c l) : val l < 4294967296 ^ n := by
  have := val_lt h.lims
  rwa [h.len] at this
theorem add_lt_pow {x y n m : Nat} (hx : x < 4294967296 ^ n) (hy : y < 4294967296 ^ m) : x + y < 4294967296 ^ (n + m + 1) := by
  have h1 : 4294967296 ^ n ≤ 4294967296 ^ (n + m) := Nat.pow_le_pow_right (by omega) (by omega)
  have h2 : 4294967296 ^ m ≤ 4294967296 ^ (n + m) := Nat.pow_le_pow_right (by omega) (by omega)
  rw [Nat.pow_succ]
  omega
theorem mul_lt_pow {x y n m : Nat} (hx : x < 4294967296 ^ n) (hy : y < 4294967296 ^ m) : x * y < 4294967296 ^ (n + m) := by
  rw [Nat.pow_add]
  exact Nat.mul_lt_mul'' hx hy
theorem pow_le_pow_limb {n m : Nat} (h : n ≤ m) : 4294967296 ^ n ≤ 4294967296 ^ m := Nat.pow_le_pow_right (by omega) h

section
variable {w : World} {A B : Option Addr} {n c m d : Nat} {l k : List Nat}

theorem radd2 (h : Rd w A n c l) (h' : Rd w B m d k) (hn : n ≤ 1000000) (hm : m ≤ 1000000) :
    Calls Tryd.prog 63 #[.slice A n c, .slice B m d] w (RetB (val l + val k) (n + m + 1) w) :=
  (radd_any A n c l B m d k w h h' (by omega) (by omega)).mono fun _ _ hr => hr.b (add_lt_pow (val_lt_len h) (val_lt_len h'))
theorem trim1 (h : Rd w A n c l) (hn : n ≤ 1000000) :
    Calls Tryd.prog 27 #[.slice A n c] w (RetB (val l) n w) :=
  (trim_any A n c l w h (by omega)).mono fun _ _ hr => hr.b (val_lt_len h)
theorem rtrim1 (h : Rd w A n c l) (hn : n ≤ 1000000) :
    Calls Tryd.prog 11 #[.slice A n c] w (RetB (val l) n w) :=
  (rtrim_any A n c l w h (by omega)).mono fun _ _ hr => hr.b (val_lt_len h)
theorem rsub2 (h : Rd w A n c l) (h' : Rd w B m d k) (hn : n ≤ 1000000) (hle : val k ≤ val l) :
    Calls Tryd.prog 62 #[.slice A n c, .slice B m d] w (RetB (val l - val k) n w) :=
  (rsub_any A n c l B m d k w h h' (by omega) hle).mono fun _ _ hr => hr.b (by have := val_lt_len h; omega)

/-- The comparison of two canonical lists: of the numbers. -/
theorem same_num {x y : Nat} (h : Rd w A n c (limbs x)) (h' : Rd w B m d (limbs y)) :
    Calls Tryd.prog 10 #[.slice A n c, .slice B m d] w (Makes (.bool (decide (x = y))) w) := by
  have := same_any A n c (limbs x) B m d (limbs y) w h h'
  simpa [limbs_inj] using this
theorem same_num_yes {x y : Nat} (h : Rd w A n c (limbs x)) (h' : Rd w B m d (limbs y)) (e : x = y) :
    Calls Tryd.prog 10 #[.slice A n c, .slice B m d] w (Makes (.bool true) w) := by
  subst e
  exact same_yes A n c _ B m d w h h'
theorem rsame_num_yes {x y : Nat} (h : Rd w A n c (limbs x)) (h' : Rd w B m d (limbs y)) (e : x = y) :
    Calls Tryd.prog 28 #[.slice A n c, .slice B m d] w (Makes (.bool true) w) := by
  subst e
  have := rsame_any A n c (limbs x) B m d (limbs x) w h h'
  simpa using this
end

/-- A literal of one limb. -/
theorem rd_lit1 {w : World} {x : Nat} (g : Nat) (hg : g = w.heap.size) (z : Int) (hz : z = (x : Int)) (hx : x < 4294967296) (hx0 : x ≠ 0) :
    Rd (w.alloc (.cells #[Value.int .u32 z] 40)) (some ⟨g, 0, none⟩) 1 1 (limbs x) := by
  subst hg
  have e : limbs x = [x] := by
    rw [limbs_pos hx0, Nat.mod_eq_of_lt hx, Nat.div_eq_of_lt hx, limbs_zero]
  rw [e]
  exact (own_one w 40 hz hx).rd
end Go.Proofs.YtfggecdgnidhfaaDoor
