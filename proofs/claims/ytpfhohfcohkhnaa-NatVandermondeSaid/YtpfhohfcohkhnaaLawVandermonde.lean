/- The walk of the law NatVandermonde. -/
import Derived.Test.YtpfhohfcohkhnaaLawPascal
namespace Go.Proofs.Ytpfhohfcohkhnaa
open Go.RowKit

set_option maxHeartbeats 4000000 in
theorem law_NatVandermonde (w : World) (m : Nat) (hm : m < 256) (n : Nat) (hn : n < 256) (k : Nat) (hk : k < 256) :
    Calls Try.prog 15 #[.int .u8 (m : Int), .int .u8 (n : Int), .int .u8 (k : Int)] w (Makes (.bool true) w) := by
  have hS := Below.refl w.heap.size w
  have e1 := hide (show binNum ((m + n : Nat) : Int) (k : Int) = choose (m + n) k from bin_num (by omega))
  have HV := hide (vandermonde m n k)
  go_enter Try.func15, Try.ntmps15
  go_wp2_with fail
  refine (bin_yes _ _ _ (m + n) _ (by simp) (by omega) ⟨by omega, by omega⟩ e1.out).mono ?_
  rintro e w1 ⟨A1, n1, c1, rfl, hw, hb1, hn1⟩
  try simp only [val_limbs] at hw
  try simp only [val_nil] at hw
  replace hS := below_step hb1 hS
  clear hb1
  have HL := hide hw.len
  go_wp2_with fail
  go_loopw [9, 10, 11, 12, 13, 14] (fun v i _ _ _ _ wr => ∃ (j : Nat) (A2 : Option Addr) (n2 c2 : Nat), j ≤ k + 1 ∧ i = .int .i64 (j : Int) ∧ v = .slice A2 n2 c2 ∧ Rd wr A2 n2 c2 (limbs (sumTo j (fun j => choose m j * choose n (k - j)))) ∧ n2 ≤ 259 * j ∧ Rd wr A1 n1 c1 (limbs (choose (m + n) k)) ∧ Below w.heap.size w wr) (fun _ i _ _ _ _ _ => k + 1 - (intOf i).toNat)
  case atStart => exact ⟨0, _, 0, 0, by omega, rfl, rfl, by simp only [sumTo, limbs_zero]; exact Rd.nil _, by omega, hw, hS⟩
  case round =>
    clear hw hS
    obtain ⟨j, A2, n2, c2, hj, rfl, rfl, hr, hl2, hw, hS⟩ := hrel
    by_cases hlt : j ≤ k
    · have e2 := hide (show binNum (m : Int) (j : Int) = choose m j from bin_num (by omega))
      have hkj : (k : Int) - (j : Int) = ((k - j : Nat) : Int) := by omega
      have e3 := hide (show binNum (n : Int) ((k : Int) - (j : Int)) = choose n (k - j) by rw [hkj]; exact bin_num (by omega))
      clear hkj
      go_wp2_with fail
      refine (bin_yes _ _ _ m _ (by simp) (by omega) ⟨by omega, by omega⟩ e2.out).mono ?_
      rintro e w3 ⟨A3, n3, c3, rfl, hx, hb3, hn3⟩
      try simp only [val_limbs] at hx
      try simp only [val_nil] at hx
      replace hr := hr.below hb3
      replace hw := hw.below hb3
      replace hS := below_step hb3 hS
      clear hb3
      go_wp2_with fail
      refine (bin_yes _ _ _ n _ (by simp) (by omega) ⟨by omega, by omega⟩ e3.out).mono ?_
      rintro e w4 ⟨A4, n4, c4, rfl, hy, hb4, hn4⟩
      try simp only [val_limbs] at hy
      try simp only [val_nil] at hy
      replace hr := hr.below hb4
      replace hw := hw.below hb4
      replace hx := hx.below hb4
      replace hS := below_step hb4 hS
      clear hb4
      go_wp2_with fail
      refine (mul2 hx hy _ (by simp) (by omega) (by omega)).mono ?_
      rintro e w5 ⟨A5, n5, c5, rfl, hp, hb5, hn5⟩
      try simp only [val_limbs] at hp
      try simp only [val_nil] at hp
      replace hr := hr.below hb5
      replace hw := hw.below hb5
      replace hx := hx.below hb5
      replace hy := hy.below hb5
      replace hS := below_step hb5 hS
      clear hb5
      clear hx hy
      go_wp2_with fail
      refine (add2 hr hp _ (by simp) (by omega) (by omega)).mono ?_
      rintro e w6 ⟨A6, n6, c6, rfl, hq, hb6, hn6⟩
      try simp only [val_limbs] at hq
      try simp only [val_nil] at hq
      replace hr := hr.below hb6
      replace hw := hw.below hb6
      replace hp := hp.below hb6
      replace hS := below_step hb6 hS
      clear hb6
      clear hr hp
      go_wp2
      go_roundw
      case rel => exact ⟨j + 1, A6, n6, c6, by omega, by go_num, rfl, hq, by omega, hw, hS⟩
      case measure => simp [intOf]; omega
    · obtain rfl : j = k + 1 := by omega
      rw [← HV.out] at hr
      by_cases hgt : m + n < k
      · have h0 : n1 = 0 := by
          rw [← HL.out, choose_eq_zero.mpr hgt, limbs_zero]; rfl
        subst h0
        have hq1 : (m : Int) + (n : Int) < (k : Int) := by omega
        go_wp2_with fail
        refine (same_num_yes hr hw rfl).mono ?_
        rintro e w3 ⟨rfl, hb3⟩
        replace hS := below_step hb3 hS
        go_wp2
        go_ret
        exact ⟨by simp, hS⟩
      · have h0 : n1 ≠ 0 := by
          intro h9
          have h8 := HL.out
          rw [h9] at h8
          have h7 := List.eq_nil_of_length_eq_zero h8
          have h6 : val (limbs (choose (m + n) k)) = 0 := by rw [h7]; rfl
          rw [val_limbs] at h6
          exact hgt (choose_eq_zero.mp h6)
        have hq1 : ¬ (m : Int) + (n : Int) < (k : Int) := by omega
        have hq2 : ¬ (n1 : Int) = 0 := by omega
        go_wp2_with fail
        refine (same_num_yes hr hw rfl).mono ?_
        rintro e w3 ⟨rfl, hb3⟩
        replace hS := below_step hb3 hS
        go_wp2
        go_ret
        refine ⟨?_, hS⟩; exact congrArg _ (congrArg Value.bool (by simp; rw [decide_eq_false (show ¬ ((m : Int) + (n : Int) < (k : Int)) by omega)]; symm; simpa using h0))
end Go.Proofs.Ytpfhohfcohkhnaa
