/- The sum of a list of numbers: the walk of Sum. -/
import Derived.Test.YtjadgomakoaibaaFwdNat
namespace Go.Proofs.Ytjadgomakoaibaa
open Go.RowKit
theorem sum_take_le (xs : List Nat) (j : Nat) : (xs.take j).sum ≤ xs.sum := by
  have h : xs.sum = (xs.take j).sum + (xs.drop j).sum := by rw [← List.sum_append, List.take_append_drop]
  omega
theorem sum_take_next {xs : List Nat} {j : Nat} (h : j < xs.length) : (xs.take (j + 1)).sum = (xs.take j).sum + xs.getD j 0 := by
  rw [List.take_succ_eq_append_getElem h, List.sum_append, List.getD_eq_getElem?_getD, List.getElem?_eq_getElem h]
  simp
set_option maxHeartbeats 1000000 in
theorem sum_nat (w : World) (K : Nat) (hK : K ≤ 1000) (A : Option Addr) (n c : Nat) (xs : List Nat) (h : RdV (natC K) 0 w 1 A n c xs) (hT : xs.sum < cap200) :
    Calls Try.prog 29 #[.agg #[], .slice A n c] w (RetB xs.sum 200 w) := by
  have h63 := h.le63
  have HLEN := hide h.len
  have HT := hide hT
  clear hT
  have hmZ := @method_zero_nat
  have hmA := @method_add_nat
  go_enter Try.func29, Try.ntmps29
  go_wp2_with fail
  refine (counting_zero _).mono ?_
  rintro e w1 ⟨A1, n1, c1, rfl, h1, hb1, hn1⟩
  have hS1 := below_step hb1 (below_alloc w _)
  clear hb1
  go_wp2_with fail
  go_loopw [5, 7, 13] (fun sv _ iv wr => ∃ (j : Nat) (A1 : Option Addr) (n1 c1 : Nat), j ≤ n ∧ iv = .int .i64 (j : Int) ∧ sv = .slice A1 n1 c1 ∧ Rd wr A1 n1 c1 (limbs (xs.take j).sum) ∧ Below w.heap.size w wr) (fun _ _ iv _ => n - (intOf iv).toNat)
  case atStart => exact ⟨0, A1, n1, c1, Nat.zero_le _, rfl, rfl, by simpa using h1, hS1⟩
  case round =>
    clear hS1 h1 hn1
    obtain ⟨j, A1, n1, c1, hj, rfl, rfl, hR, hS⟩ := hrel
    have hn1 : n1 ≤ 200 := by
      rw [← hR.len]
      exact length_limbs_cap (Nat.lt_of_le_of_lt (sum_take_le xs j) HT.out)
    by_cases hlt : j < n
    · obtain ⟨b, off, v, rfl, hb, hcell, A2, n2, c2, rfl, hX, hX2⟩ := (h.below hS).at1 hlt
      have HNX := hide (sum_take_next (xs := xs) (j := j) (by have := HLEN.out; omega))
      go_wp2_with fail
      refine (counting_add hR hX (by omega) (by omega)).mono ?_
      rintro e w2 ⟨A3, n3, c3, rfl, h3, hb3, hn3⟩
      rw [val_limbs, val_limbs, ← HNX.out] at h3
      have HH := hide (And.intro h3 (below_step hb3 hS))
      clear h3 hb3 hn3 hR hX
      go_wp2
      go_roundw
      case rel => exact ⟨j + 1, A3, n3, c3, by omega, by go_num, rfl, HH.out.1, HH.out.2⟩
      case measure => simp [intOf]; omega
    · obtain rfl : j = n := by omega
      have hall : xs.take j = xs := List.take_of_length_le (by have := HLEN.out; omega)
      rw [hall] at hR
      clear hall
      go_wp2
      go_ret
      exact ⟨_, _, _, rfl, hR, hS, hn1⟩
end Go.Proofs.Ytjadgomakoaibaa
