/- The walk of the law NatPascal. -/
import Derived.Test.YtpfhohfcohkhnaaBinom
namespace Go.Proofs.Ytpfhohfcohkhnaa
open Go.RowKit

/-- A binomial coefficient of a row that is not too long. -/
theorem bin_yes (w : World) (z1 z2 : Int) (n v : Nat) (hz : z1 = (n : Int)) (hn : n ≤ 4096) (hz2 : -9223372036854775808 ≤ z2 ∧ z2 ≤ 9223372036854775807) (hv : binNum (n : Int) z2 = v) :
    Calls Try.prog 52 #[.int .i64 z1, .int .i64 z2] w (fun x w' => ∃ A' n' c', x = .returned (.tuple #[.slice A' n' c', .int .i64 0]) ∧ Rd w' A' n' c' (limbs v) ∧ Below w.heap.size w w' ∧ n' ≤ 129) := by
  subst hz hv
  have h := binom_any (n : Int) z2 w ⟨by omega, by omega⟩ hz2
  refine h.mono ?_
  rintro e w' ⟨A', n', c', hx, hr, hb, hl⟩
  rw [bin_ok hn] at hx
  exact ⟨A', n', c', hx, hr, hb, hl⟩
theorem bin_flip {n k : Nat} (hn : n ≤ 4096) : binNum (n : Int) ((n : Int) - (k : Int)) = choose n k := by
  by_cases h : k ≤ n
  · have e : (n : Int) - (k : Int) = ((n - k : Nat) : Int) := by omega
    rw [e, bin_num hn]
    exact choose_symm h
  · rw [bin_neg (by omega), choose_lt (by omega)]

set_option maxHeartbeats 4000000 in
theorem law_NatPascal (w : World) (n : Nat) (hn : n < 256) (k : Nat) (hk : k < 256) :
    Calls Try.prog 13 #[.int .u8 (n : Int), .int .u8 (k : Int)] w (Makes (.bool true) w) := by
  have hS := Below.refl w.heap.size w
  have e1 : binNum (n : Int) (k : Int) = choose n k := bin_num (by omega)
  have e2 : binNum (n : Int) ((k : Int) + 1) = choose n (k + 1) := bin_num (n := n) (k := k + 1) (by omega)
  have e3 : binNum ((n + 1 : Nat) : Int) ((k : Int) + 1) = choose (n + 1) (k + 1) := bin_num (n := n + 1) (k := k + 1) (by omega)
  have e4 : binNum (n : Int) ((n : Int) - (k : Int)) = choose n k := bin_flip (by omega)
  have e5 : binNum (n : Int) 0 = 1 := (bin_num (n := n) (k := 0) (by omega)).trans (choose_zero_right n)
  replace e1 := hide e1
  replace e2 := hide e2
  replace e3 := hide e3
  replace e4 := hide e4
  replace e5 := hide e5
  go_enter Try.func13, Try.ntmps13
  go_wp2_with fail
  refine (bin_yes _ _ _ n _ (by simp) (by omega) ⟨by omega, by omega⟩ e1.out).mono ?_
  rintro e w1 ⟨A1, n1, c1, rfl, ha, hb1, hn1⟩
  try simp only [val_limbs] at ha
  try simp only [val_nil] at ha
  replace hS := below_step hb1 hS
  clear hb1
  go_wp2_with fail
  refine (bin_yes _ _ _ n _ (by simp) (by omega) ⟨by omega, by omega⟩ e2.out).mono ?_
  rintro e w2 ⟨A2, n2, c2, rfl, hb, hb2, hn2⟩
  try simp only [val_limbs] at hb
  try simp only [val_nil] at hb
  replace ha := ha.below hb2
  replace hS := below_step hb2 hS
  clear hb2
  go_wp2_with fail
  refine (bin_yes _ _ _ (n + 1) _ (by simp) (by omega) ⟨by omega, by omega⟩ e3.out).mono ?_
  rintro e w3 ⟨A3, n3, c3, rfl, hc, hb3, hn3⟩
  try simp only [val_limbs] at hc
  try simp only [val_nil] at hc
  replace ha := ha.below hb3
  replace hb := hb.below hb3
  replace hS := below_step hb3 hS
  clear hb3
  go_wp2_with fail
  refine (bin_yes _ _ _ n _ (by simp) (by omega) ⟨by omega, by omega⟩ e4.out).mono ?_
  rintro e w4 ⟨A4, n4, c4, rfl, hd, hb4, hn4⟩
  try simp only [val_limbs] at hd
  try simp only [val_nil] at hd
  replace ha := ha.below hb4
  replace hb := hb.below hb4
  replace hc := hc.below hb4
  replace hS := below_step hb4 hS
  clear hb4
  go_wp2_with fail
  refine (bin_yes _ _ _ n _ (by simp) (by omega) ⟨by omega, by omega⟩ e5.out).mono ?_
  rintro e w5 ⟨A5, n5, c5, rfl, ho, hb5, hn5⟩
  try simp only [val_limbs] at ho
  try simp only [val_nil] at ho
  replace ha := ha.below hb5
  replace hb := hb.below hb5
  replace hc := hc.below hb5
  replace hd := hd.below hb5
  replace hS := below_step hb5 hS
  clear hb5
  have h1 := rd_lit1 (w := w5) (x := 1) (w5.heap.size) (by simp) 1 rfl (by omega) (by omega)
  replace ha := ha.below (below_alloc _ (.cells #[Value.int .u32 1] 56))
  replace hb := hb.below (below_alloc _ (.cells #[Value.int .u32 1] 56))
  replace hc := hc.below (below_alloc _ (.cells #[Value.int .u32 1] 56))
  replace hd := hd.below (below_alloc _ (.cells #[Value.int .u32 1] 56))
  replace ho := ho.below (below_alloc _ (.cells #[Value.int .u32 1] 56))
  replace hS := below_step (below_alloc _ (.cells #[Value.int .u32 1] 56)) hS
  go_wp2_with fail
  refine (same_num_yes ho h1 rfl).mono ?_
  rintro e w6 ⟨rfl, hb6⟩
  replace ha := ha.below hb6
  replace hb := hb.below hb6
  replace hc := hc.below hb6
  replace hd := hd.below hb6
  replace ho := ho.below hb6
  replace h1 := h1.below hb6
  replace hS := below_step hb6 hS
  clear hb6
  clear ho h1
  go_wp2_with fail
  refine (add2 ha hb _ (by simp) (by omega) (by omega)).mono ?_
  rintro e w7 ⟨A7, n7, c7, rfl, hu, hb7, hn7⟩
  try simp only [val_limbs] at hu
  try simp only [val_nil] at hu
  replace ha := ha.below hb7
  replace hb := hb.below hb7
  replace hc := hc.below hb7
  replace hd := hd.below hb7
  replace hS := below_step hb7 hS
  clear hb7
  go_wp2_with fail
  refine (same_num_yes hc hu rfl).mono ?_
  rintro e w8 ⟨rfl, hb8⟩
  replace ha := ha.below hb8
  replace hb := hb.below hb8
  replace hc := hc.below hb8
  replace hd := hd.below hb8
  replace hu := hu.below hb8
  replace hS := below_step hb8 hS
  clear hb8
  clear hc hu
  go_wp2_with fail
  refine (same_num_yes hd ha rfl).mono ?_
  rintro e w9 ⟨rfl, hb9⟩
  replace ha := ha.below hb9
  replace hb := hb.below hb9
  replace hd := hd.below hb9
  replace hS := below_step hb9 hS
  clear hb9
  clear hd
  go_wp2
  go_ret
  exact ⟨by rfl, hS⟩
end Go.Proofs.Ytpfhohfcohkhnaa
