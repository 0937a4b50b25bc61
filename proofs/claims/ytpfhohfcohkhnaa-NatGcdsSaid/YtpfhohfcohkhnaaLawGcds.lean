/- The walk of the law NatGcds. -/
import Derived.Test.YtpfhohfcohkhnaaGcd
namespace Go.Proofs.Ytpfhohfcohkhnaa
open Go.RowKit

set_option maxHeartbeats 4000000 in
theorem law_NatGcds (w : World) (Aa : Option Addr) (na ca : Nat) (la : List Nat) (ha : Rd w Aa na ca la) (Ab : Option Addr) (nb cb : Nat) (lb : List Nat) (hb : Rd w Ab nb cb lb) (Ac : Option Addr) (nc cc : Nat) (lc : List Nat) (hc : Rd w Ac nc cc lc) :
    Calls Try.prog 19 #[.slice Aa na ca, .slice Ab nb cb, .slice Ac nc cc] w (Makes (.bool true) w) := by
  have hS := below_alloc w (.cells #[.slice Aa na ca, .slice Ab nb cb, .slice Ac nc cc] 42)
  have hL := rdl_three 42 ha hb hc
  go_enter Try.func19, Try.ntmps19
  go_wp2_with fail
  refine (long_any 12 _ 3 3 _ _ hL).mono ?_
  rintro e w0 ⟨rfl, hw0⟩
  subst hw0
  cases hlong : anyLong 12 [la, lb, lc] with
  | true =>
    clear hlong
    go_wp2
    go_ret
    exact ⟨rfl, hS⟩
  | false =>
    have hna : na ≤ 12 := by
      have := anyLong_false hlong la (by simp)
      have := ha.len
      omega
    have hnb : nb ≤ 12 := by
      have := anyLong_false hlong lb (by simp)
      have := hb.len
      omega
    have hnc : nc ≤ 12 := by
      have := anyLong_false hlong lc (by simp)
      have := hc.len
      omega
    clear hlong hL
    obtain ⟨w0, hw0⟩ : ∃ w0, w0 = World.alloc w (.cells #[.slice Aa na ca, .slice Ab nb cb, .slice Ac nc cc] 42) := ⟨_, rfl⟩
    rw [← hw0] at hS ⊢
    have ha : Rd w0 Aa na ca la := by rw [hw0]; exact ha.below (below_alloc w (.cells #[.slice Aa na ca, .slice Ab nb cb, .slice Ac nc cc] 42))
    have hb : Rd w0 Ab nb cb lb := by rw [hw0]; exact hb.below (below_alloc w (.cells #[.slice Aa na ca, .slice Ab nb cb, .slice Ac nc cc] 42))
    have hc : Rd w0 Ac nc cc lc := by rw [hw0]; exact hc.below (below_alloc w (.cells #[.slice Aa na ca, .slice Ab nb cb, .slice Ac nc cc] 42))
    clear hw0
    go_wp2_with fail
    refine (gcd1 ha hb (by omega) (by omega)).mono ?_
    rintro e w1 ⟨A1, n1, c1, rfl, hx, hb1, hn1⟩
    try simp only [val_limbs] at hx
    try simp only [val_nil] at hx
    replace ha := ha.below hb1
    replace hb := hb.below hb1
    replace hc := hc.below hb1
    replace hS := below_step hb1 hS
    clear hb1
    go_wp2_with fail
    refine (rgcd1 ha hb (by omega) (by omega)).mono ?_
    rintro e w2 ⟨A2, n2, c2, rfl, hy, hb2, hn2⟩
    try simp only [val_limbs] at hy
    try simp only [val_nil] at hy
    replace ha := ha.below hb2
    replace hb := hb.below hb2
    replace hc := hc.below hb2
    replace hx := hx.below hb2
    replace hS := below_step hb2 hS
    clear hb2
    go_wp2_with fail
    refine (same_num_yes hx hy rfl).mono ?_
    rintro e w3 ⟨rfl, hb3⟩
    replace ha := ha.below hb3
    replace hb := hb.below hb3
    replace hc := hc.below hb3
    replace hx := hx.below hb3
    replace hy := hy.below hb3
    replace hS := below_step hb3 hS
    clear hb3
    clear hx hy
    go_wp2_with fail
    refine (mul2 ha hc _ (by simp) (by omega) (by omega)).mono ?_
    rintro e w4 ⟨A4, n4, c4, rfl, hu, hb4, hn4⟩
    try simp only [val_limbs] at hu
    try simp only [val_nil] at hu
    replace ha := ha.below hb4
    replace hb := hb.below hb4
    replace hc := hc.below hb4
    replace hS := below_step hb4 hS
    clear hb4
    go_wp2_with fail
    refine (mul2 hb hc _ (by simp) (by omega) (by omega)).mono ?_
    rintro e w5 ⟨A5, n5, c5, rfl, hv, hb5, hn5⟩
    try simp only [val_limbs] at hv
    try simp only [val_nil] at hv
    replace ha := ha.below hb5
    replace hb := hb.below hb5
    replace hc := hc.below hb5
    replace hu := hu.below hb5
    replace hS := below_step hb5 hS
    clear hb5
    go_wp2_with fail
    refine (gcd1 hu hv (by omega) (by omega)).mono ?_
    rintro e w6 ⟨A6, n6, c6, rfl, hx, hb6, hn6⟩
    try simp only [val_limbs] at hx
    try simp only [val_nil] at hx
    replace ha := ha.below hb6
    replace hb := hb.below hb6
    replace hc := hc.below hb6
    replace hu := hu.below hb6
    replace hv := hv.below hb6
    replace hS := below_step hb6 hS
    clear hb6
    clear hu hv
    go_wp2_with fail
    refine (rgcd1 ha hb (by omega) (by omega)).mono ?_
    rintro e w7 ⟨A7, n7, c7, rfl, hy, hb7, hn7⟩
    try simp only [val_limbs] at hy
    try simp only [val_nil] at hy
    replace ha := ha.below hb7
    replace hb := hb.below hb7
    replace hc := hc.below hb7
    replace hx := hx.below hb7
    replace hS := below_step hb7 hS
    clear hb7
    go_wp2_with fail
    refine (rmul2 hy hc (by omega) (by omega)).mono ?_
    rintro e w8 ⟨A8, n8, c8, rfl, hz, hb8, hn8⟩
    try simp only [val_limbs] at hz
    try simp only [val_nil] at hz
    replace ha := ha.below hb8
    replace hb := hb.below hb8
    replace hc := hc.below hb8
    replace hx := hx.below hb8
    replace hy := hy.below hb8
    replace hS := below_step hb8 hS
    clear hb8
    clear hy
    go_wp2_with fail
    refine (same_num_yes hx hz (Nat.gcd_mul_right _ _ _)).mono ?_
    rintro e w9 ⟨rfl, hb9⟩
    replace ha := ha.below hb9
    replace hb := hb.below hb9
    replace hc := hc.below hb9
    replace hx := hx.below hb9
    replace hz := hz.below hb9
    replace hS := below_step hb9 hS
    clear hb9
    clear hx hz
    go_wp2
    go_ret
    exact ⟨by rfl, hS⟩
end Go.Proofs.Ytpfhohfcohkhnaa
