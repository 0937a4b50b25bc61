/- The contracts as a law calls them: two terms, results with bounds on their lengths, comparisons of numbers. -/
import Derived.Test.YtonimfogmplgdaaAddMul
import Derived.Test.YtonimfogmplgdaaRefAdd
import Derived.Test.YtonimfogmplgdaaSub
import Derived.Test.YtonimfogmplgdaaDigit
namespace Go.Proofs.Ytonimfogmplgdaa
open Go.RowKit

/-- A call that returns a slice with the number N, of at most K limbs. -/
def RetB (N K : Nat) (w : World) (x : Ending) (w' : World) : Prop :=
  ∃ A n c, x = .returned (.slice A n c) ∧ Rd w' A n c (limbs N) ∧ Below w.heap.size w w' ∧ n ≤ K

theorem RetNat.b {N K : Nat} {w : World} {x : Ending} {w' : World} (h : RetNat N w x w') (hK : N < 4294967296 ^ K) : RetB N K w x w' := by
  obtain ⟨A, n, c, hx, hr, hb⟩ := h
  exact ⟨A, n, c, hx, hr, hb, by have := length_limbs_le hK; have := hr.len; omega⟩

theorem val_lt_len {w : World} {A : Option Addr} {n c : Nat} {l : List Nat} (h : Rd w A n c l) : val l < 4294967296 ^ n := by
  have := val_lt h.lims
  rwa [h.len] at this
theorem add_lt_pow {x y n m : Nat} (hx : x < 4294967296 ^ n) (hy : y < 4294967296 ^ m) : x + y < 4294967296 ^ (n + m + 1) := by
  have h1 : 4294967296 ^ n ≤ 4294967296 ^ (n + m) := Nat.pow_le_pow_right (by omega) (by omega)
  have h2 : 4294967296 ^ m ≤ 4294967296 ^ (n + m) := Nat.pow_le_pow_right (by omega) (by omega)
  rw [Nat.pow_succ]
  omega
theorem mul_lt_pow {x y n m : Nat} (hx : x < 4294967296 ^ n) (hy : y < 4294967296 ^ m) : x * y < 4294967296 ^ (n + m) := by
  rw [Nat.pow_add]
  exact Nat.mul_lt_mul'' hx hy
theorem pow_le_pow_limb {n m : Nat} (h : n ≤ m) : 4294967296 ^ n ≤ 4294967296 ^ m := Nat.pow_le_pow_right (by omega) h

section
variable {w : World} {A B : Option Addr} {n c m d : Nat} {l k : List Nat}

theorem add2 (h : Rd w A n c l) (h' : Rd w B m d k) (g : Nat) (hg : g = w.heap.size) (hn : n ≤ 1000000) (hm : m ≤ 1000000) :
    Calls Try.prog 40 #[.slice (some ⟨g, 0, none⟩) 2 2] (w.alloc (.cells #[.slice A n c, .slice B m d] 23)) (RetB (val l + val k) (n + m + 1) w) := by
  subst hg
  refine (add_any _ 2 2 _ _ (rdl_two 23 h h') 1000000 (fun x hx => ?_) (by omega) (by omega)).mono ?_
  · simp at hx
    rcases hx with rfl | rfl
    · rw [h.len]; exact hn
    · rw [h'.len]; exact hm
  · intro e w' hr
    have hv : sumV [l, k] = val l + val k := by simp [sumV]
    rw [hv] at hr
    exact (hr.later (below_alloc _ _)).b (add_lt_pow (val_lt_len h) (val_lt_len h'))

theorem mul2 (h : Rd w A n c l) (h' : Rd w B m d k) (g : Nat) (hg : g = w.heap.size) (hn : n ≤ 1000000) (hm : m ≤ 1000000) :
    Calls Try.prog 43 #[.slice (some ⟨g, 0, none⟩) 2 2] (w.alloc (.cells #[.slice A n c, .slice B m d] 23)) (RetB (val l * val k) (n + m) w) := by
  subst hg
  refine (mul_any _ 2 2 _ _ (rdl_two 23 h h') 1000000 (fun x hx => ?_) (by omega) (by omega)).mono ?_
  · simp at hx
    rcases hx with rfl | rfl
    · rw [h.len]; exact hn
    · rw [h'.len]; exact hm
  · intro e w' hr
    have hv : prodV [l, k] = val l * val k := by simp [prodV]
    rw [hv] at hr
    exact (hr.later (below_alloc _ _)).b (mul_lt_pow (val_lt_len h) (val_lt_len h'))

theorem add0 (w : World) : Calls Try.prog 40 #[.slice none 0 0] w (RetB 0 0 w) :=
  (add_any none 0 0 [] w (RdL.nil w) 0 (fun _ h => by simp at h) (by omega) (by omega)).mono fun _ _ h => h.b (by simp [sumV])
theorem mul0 (w : World) : Calls Try.prog 43 #[.slice none 0 0] w (RetB 1 1 w) :=
  (mul_any none 0 0 [] w (RdL.nil w) 0 (fun _ h => by simp at h) (by omega) (by omega)).mono fun _ _ h => h.b (by simp [prodV])

theorem radd2 (h : Rd w A n c l) (h' : Rd w B m d k) (hn : n ≤ 1000000) (hm : m ≤ 1000000) :
    Calls Try.prog 41 #[.slice A n c, .slice B m d] w (RetB (val l + val k) (n + m + 1) w) :=
  (radd_any A n c l B m d k w h h' (by omega) (by omega)).mono fun _ _ hr => hr.b (add_lt_pow (val_lt_len h) (val_lt_len h'))
theorem rmul2 (h : Rd w A n c l) (h' : Rd w B m d k) (hn : n ≤ 1000000) (hm : m ≤ 1000000) :
    Calls Try.prog 44 #[.slice A n c, .slice B m d] w (RetB (val l * val k) (n + m) w) :=
  (rmul_any A n c l B m d k w h h' (by omega)).mono fun _ _ hr => hr.b (mul_lt_pow (val_lt_len h) (val_lt_len h'))
theorem trim1 (h : Rd w A n c l) (hn : n ≤ 1000000) :
    Calls Try.prog 52 #[.slice A n c] w (RetB (val l) n w) :=
  (trim_any A n c l w h (by omega)).mono fun _ _ hr => hr.b (val_lt_len h)
theorem rtrim1 (h : Rd w A n c l) (hn : n ≤ 1000000) :
    Calls Try.prog 47 #[.slice A n c] w (RetB (val l) n w) :=
  (rtrim_any A n c l w h (by omega)).mono fun _ _ hr => hr.b (val_lt_len h)
theorem rsame_num_yes {x y : Nat} (h : Rd w A n c (limbs x)) (h' : Rd w B m d (limbs y)) (e : x = y) :
    Calls Try.prog 36 #[.slice A n c, .slice B m d] w (Makes (.bool true) w) := by
  subst e
  have := rsame_any A n c (limbs x) B m d (limbs x) w h h'
  simpa using this
end

/-- A literal of one limb. -/
theorem rd_lit1 {w : World} {x : Nat} (g : Nat) (hg : g = w.heap.size) (z : Int) (hz : z = (x : Int)) (hx : x < 4294967296) (hx0 : x ≠ 0) :
    Rd (w.alloc (.cells #[Value.int .u32 z] 33)) (some ⟨g, 0, none⟩) 1 1 (limbs x) := by
  subst hg
  have e : limbs x = [x] := by
    rw [limbs_pos hx0, Nat.mod_eq_of_lt hx, Nat.div_eq_of_lt hx, limbs_zero]
  rw [e]
  exact (own_one w 33 hz hx).rd
end Go.Proofs.Ytonimfogmplgdaa
