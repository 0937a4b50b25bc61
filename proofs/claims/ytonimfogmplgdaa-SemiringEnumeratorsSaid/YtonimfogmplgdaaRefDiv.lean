/- The walks of the reference's shift, DivMod, Zero and Gcd. -/
import Derived.Test.YtonimfogmplgdaaTwo
import Derived.Test.YtonimfogmplgdaaCmp
import Derived.Test.YtonimfogmplgdaaBinom
namespace Go.Proofs.Ytonimfogmplgdaa
open Go.RowKit

/-- A shift to the left, i limbs of the argument done: M is the power of two, z the limbs of zero ahead. -/
def ShlAt (M : Nat) (a o : List Nat) (i c : Nat) : Prop := val o + 4294967296 ^ o.length * c = M * val (a.take i)

theorem shlAt_step {M S z : Nat} {a o : List Nat} {i c : Nat} (h : ShlAt M a o i c) (hM : M = 4294967296 ^ z * S) (ho : o.length = z + i) (hi : i < a.length) (s : Nat) (hs : s = lim a i * S + c) :
    ShlAt M a (o ++ [s % 4294967296]) (i + 1) (s / 4294967296) := by
  unfold ShlAt at h ⊢
  have h1 := carry_step h hs
  have e1 : val (o ++ [s % 4294967296]) = val o + 4294967296 ^ o.length * (s % 4294967296) := by rw [val_append, val_cons, val_nil]; simp
  have e2 : (o ++ [s % 4294967296]).length = o.length + 1 := by simp
  rw [e1, e2, Nat.pow_succ 4294967296 o.length, h1, val_take_succ a i hi, Nat.mul_add, ho, hM, Nat.pow_add]
  congr 1
  simp only [Nat.mul_comm, Nat.mul_left_comm, Nat.mul_assoc]

theorem shlAt_start {M : Nat} {a : List Nat} (q : Nat) : ShlAt M a (List.replicate q 0) 0 0 := by
  unfold ShlAt; rw [val_replicate]; simp [val_nil]
theorem shlAt_end {M : Nat} {a o : List Nat} {i c : Nat} (h : ShlAt M a o i c) (hi : a.length ≤ i) : val (o ++ [c]) = val a * M := by
  unfold ShlAt at h
  rw [List.take_of_length_le hi] at h
  rw [val_append, val_cons, val_nil, Nat.mul_comm (val a), ← h]
  simp
theorem shl_u64 {x r t : Nat} (hx : x < 4294967296) (hr : r < 4294967296) (ht : t < 32) : x * 2 ^ t + r < 18446744073709551616 ∧ IntKind.u64.wrap (IntKind.u64.wrap ((x : Int) * 2 ^ t) + (r : Int)) = ((x * 2 ^ t + r : Nat) : Int) := by
  have h1 : 2 ^ t ≤ 2 ^ 31 := Nat.pow_le_pow_right (by omega) (by omega)
  have h2 : x * 2 ^ t ≤ 4294967295 * 2 ^ 31 := Nat.mul_le_mul (by omega) h1
  have e : (x : Int) * 2 ^ t = ((x * 2 ^ t : Nat) : Int) := by simp
  refine ⟨by omega, ?_⟩
  rw [e]
  generalize x * 2 ^ t = y at h2
  rw [IntWalk.u64_in (y : Int) (by omega), IntWalk.u64_in _ (by omega)]
  simp

theorem rzero_any (A : Option Addr) (n c : Nat) (l : List Nat) (w : World) (h : Rd w A n c l) (hn : n ≤ 1000000) (q : Bool) (hq : decide (val l = 0) = q) :
    Calls Try.prog 46 #[.slice A n c] w (Makes (.bool q) w) := by
  go_enter Try.func46, Try.ntmps46
  go_wp2_with fail
  refine (rtrim_any _ _ _ _ _ h (by omega)).mono ?_
  rintro e w1 ⟨A1, n1, c1, rfl, h1, hb1⟩
  have hlen := h1.len
  cases q with
  | true =>
    have h0 : val l = 0 := of_decide_eq_true hq
    rw [h0, limbs_zero] at hlen
    obtain rfl : n1 = 0 := by simpa using hlen.symm
    clear hlen hq
    go_wp2
    go_ret
    exact ⟨by simp, hb1⟩
  | false =>
    have h0 : val l ≠ 0 := of_decide_eq_false hq
    have h2 : n1 ≠ 0 := by
      intro h9
      rw [h9] at hlen
      have h7 := List.eq_nil_of_length_eq_zero hlen
      have h6 : val (limbs (val l)) = 0 := by rw [h7]; rfl
      rw [val_limbs] at h6
      exact h0 h6
    have h3 : ¬ (n1 : Int) = 0 := by omega
    clear hlen hq h0
    go_wp2
    go_ret
    exact ⟨by simp [h2], hb1⟩

theorem nbits_le_len {w : World} {A : Option Addr} {n c : Nat} {l : List Nat} (h : Rd w A n c l) : nbits (val l) ≤ 32 * n := by
  refine nbits_le ?_
  rw [← pow32]
  exact val_lt_len h
theorem len_of_lt {w : World} {A : Option Addr} {n c N K : Nat} (h : Rd w A n c (limbs N)) (hN : N < 4294967296 ^ K) : n ≤ K := by
  rw [← h.len]; exact length_limbs_le hN
theorem pow2_lt_limb {i n : Nat} (h : i < 32 * n) : 2 ^ i < 4294967296 ^ n := by
  rw [pow32]; exact Nat.pow_lt_pow_right (by omega) h

/-- The two results: quotient and rest. -/
def RetDiv (q r : Nat) (w : World) (x : Ending) (w' : World) : Prop :=
  ∃ A n c B m d, x = .returned (.tuple #[.slice A n c, .slice B m d]) ∧ Rd w' A n c (limbs q) ∧ Rd w' B m d (limbs r) ∧ Below w.heap.size w w'

theorem Rd.unique {w : World} {A : Option Addr} {n c : Nat} {l k : List Nat} (h : Rd w A n c l) (h' : Rd w A n c k) : l = k := by
  refine List.ext_getElem (by rw [h.len, h'.len]) fun j hj hj' => ?_
  have hjn : j < n := by rw [← h.len]; exact hj
  obtain ⟨b, off, e, _, h1⟩ := h.at hjn
  obtain ⟨b', off', e', _, h2⟩ := h'.at hjn
  rw [e] at e'
  injection e' with e'
  injection e' with e1 e2
  subst e1 e2
  rw [h1] at h2
  have h3 : lim l j = lim k j := by
    injection h2 with h2
    injection h2 with h2 h4
    omega
  rw [lim_eq, lim_eq] at h3
  simpa [hj, hj'] using h3
open Classical in
/-- The number that a slice reads as, if it reads as limbs. -/
noncomputable def numAt (w : World) : Value → Nat
  | .slice A n c => if h : ∃ l, Rd w A n c l then val h.choose else 0
  | _ => 0
theorem numAt_eq {w : World} {A : Option Addr} {n c : Nat} {l : List Nat} (h : Rd w A n c l) : numAt w (.slice A n c) = val l := by
  have hex : ∃ l, Rd w A n c l := ⟨l, h⟩
  unfold numAt
  simp only
  rw [dif_pos hex, hex.choose_spec.unique h]

end Go.Proofs.Ytonimfogmplgdaa
