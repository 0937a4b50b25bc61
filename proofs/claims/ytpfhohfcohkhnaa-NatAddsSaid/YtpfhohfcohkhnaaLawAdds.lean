/- The walk of the law NatAdds. -/
import Derived.Test.YtpfhohfcohkhnaaTwo
namespace Go.Proofs.Ytpfhohfcohkhnaa
open Go.RowKit

set_option maxHeartbeats 2000000 in
theorem law_NatAdds (w : World) (Aa : Option Addr) (na ca : Nat) (la : List Nat) (ha : Rd w Aa na ca la) (Ab : Option Addr) (nb cb : Nat) (lb : List Nat) (hb : Rd w Ab nb cb lb) :
    Calls Try.prog 16 #[.slice Aa na ca, .slice Ab nb cb] w (Makes (.bool true) w) := by
  have hS := below_alloc w (.cells #[.slice Aa na ca, .slice Ab nb cb] 42)
  have hL := rdl_two 42 ha hb
  go_enter Try.func16, Try.ntmps16
  go_wp2_with fail
  refine (long_any 200 _ 2 2 _ _ hL).mono ?_
  rintro e w0 ⟨rfl, hw0⟩
  subst hw0
  cases hlong : anyLong 200 [la, lb] with
  | true =>
    clear hlong
    go_wp2
    go_ret
    exact ⟨rfl, hS⟩
  | false =>
    have hna : na ≤ 200 := by
      have := anyLong_false hlong la (by simp)
      have := ha.len
      omega
    have hnb : nb ≤ 200 := by
      have := anyLong_false hlong lb (by simp)
      have := hb.len
      omega
    clear hlong hL
    obtain ⟨w0, hw0⟩ : ∃ w0, w0 = World.alloc w (.cells #[.slice Aa na ca, .slice Ab nb cb] 42) := ⟨_, rfl⟩
    rw [← hw0] at hS ⊢
    have ha : Rd w0 Aa na ca la := by rw [hw0]; exact ha.below (below_alloc w (.cells #[.slice Aa na ca, .slice Ab nb cb] 42))
    have hb : Rd w0 Ab nb cb lb := by rw [hw0]; exact hb.below (below_alloc w (.cells #[.slice Aa na ca, .slice Ab nb cb] 42))
    clear hw0
    by_cases hlt : val la < val lb
    · have HCV := hide (cmpV_lt hlt)
      have hz : val la - val lb = 0 := by omega
      go_wp2_with fail
      refine (rcmp_any Aa na ca la Ab nb cb lb _ ha hb).mono ?_
      rintro e w1 ⟨rfl, rfl⟩
      rw [HCV.out]
      go_wp2_with fail
      refine (sub_any Aa na ca la Ab nb cb lb _ ha hb (by omega)).mono ?_
      rintro e w2 ⟨A2, n2, c2, rfl, hd, hb2⟩
      rw [hz] at hd
      obtain rfl : n2 = 0 := by have := hd.len; rw [limbs_zero] at this; exact this.symm
      rw [if_pos hlt]
      clear hd hz hlt
      replace ha := ha.below hb2
      replace hb := hb.below hb2
      replace hS := below_step hb2 hS
      clear hb2
      go_wp2_with fail
      refine (cmp_any Aa na ca la Ab nb cb lb _ ha hb).mono ?_
      rintro e w3 ⟨rfl, hb3⟩
      replace ha := ha.below hb3
      replace hb := hb.below hb3
      replace hS := below_step hb3 hS
      clear hb3
      rw [HCV.out]
      go_wp2_with fail
      refine (add2 ha hb _ (by simp) (by omega) (by omega)).mono ?_
      rintro e w4 ⟨A4, n4, c4, rfl, hx, hb4, hn4⟩
      try simp only [val_limbs] at hx
      try simp only [val_nil] at hx
      replace ha := ha.below hb4
      replace hb := hb.below hb4
      replace hS := below_step hb4 hS
      clear hb4
      go_wp2_with fail
      refine (radd2 ha hb (by omega) (by omega)).mono ?_
      rintro e w5 ⟨A5, n5, c5, rfl, hy, hb5, hn5⟩
      try simp only [val_limbs] at hy
      try simp only [val_nil] at hy
      replace ha := ha.below hb5
      replace hb := hb.below hb5
      replace hx := hx.below hb5
      replace hS := below_step hb5 hS
      clear hb5
      go_wp2_with fail
      refine (same_num_yes hx hy rfl).mono ?_
      rintro e w6 ⟨rfl, hb6⟩
      replace ha := ha.below hb6
      replace hb := hb.below hb6
      replace hx := hx.below hb6
      replace hy := hy.below hb6
      replace hS := below_step hb6 hS
      clear hb6
      clear hx hy
      go_wp2_with fail
      refine (mul2 ha hb _ (by simp) (by omega) (by omega)).mono ?_
      rintro e w7 ⟨A7, n7, c7, rfl, hx, hb7, hn7⟩
      try simp only [val_limbs] at hx
      try simp only [val_nil] at hx
      replace ha := ha.below hb7
      replace hb := hb.below hb7
      replace hS := below_step hb7 hS
      clear hb7
      go_wp2_with fail
      refine (rmul2 ha hb (by omega) (by omega)).mono ?_
      rintro e w8 ⟨A8, n8, c8, rfl, hy, hb8, hn8⟩
      try simp only [val_limbs] at hy
      try simp only [val_nil] at hy
      replace ha := ha.below hb8
      replace hb := hb.below hb8
      replace hx := hx.below hb8
      replace hS := below_step hb8 hS
      clear hb8
      go_wp2_with fail
      refine (same_num_yes hx hy rfl).mono ?_
      rintro e w9 ⟨rfl, hb9⟩
      replace ha := ha.below hb9
      replace hb := hb.below hb9
      replace hx := hx.below hb9
      replace hy := hy.below hb9
      replace hS := below_step hb9 hS
      clear hb9
      clear hx hy
      go_wp2
      go_ret
      exact ⟨by rfl, hS⟩
    · have hge : ¬ cmpV (val la) (val lb) < 0 := by unfold cmpV; rw [if_neg hlt]; split <;> omega
      have hge0 : 0 ≤ cmpV (val la) (val lb) := by omega
      have hle : val lb ≤ val la := by omega
      go_wp2_with fail
      refine (rcmp_any Aa na ca la Ab nb cb lb _ ha hb).mono ?_
      rintro e w1 ⟨rfl, rfl⟩
      go_wp2_with fail
      refine (sub_any Aa na ca la Ab nb cb lb _ ha hb (by omega)).mono ?_
      rintro e w2 ⟨A2, n2, c2, rfl, hd, hb2⟩
      rw [if_neg hlt]
      clear hlt
      replace ha := ha.below hb2
      replace hb := hb.below hb2
      replace hS := below_step hb2 hS
      clear hb2
      go_wp2_with fail
      refine (rsub2 ha hb (by omega) hle).mono ?_
      rintro e w3 ⟨A3, n3, c3, rfl, hy, hb3, hn3⟩
      try simp only [val_limbs] at hy
      try simp only [val_nil] at hy
      replace ha := ha.below hb3
      replace hb := hb.below hb3
      replace hd := hd.below hb3
      replace hS := below_step hb3 hS
      clear hb3
      go_wp2_with fail
      refine (same_num_yes hd hy rfl).mono ?_
      rintro e w4 ⟨rfl, hb4⟩
      replace ha := ha.below hb4
      replace hb := hb.below hb4
      replace hd := hd.below hb4
      replace hy := hy.below hb4
      replace hS := below_step hb4 hS
      clear hb4
      clear hd hy
      go_wp2_with fail
      refine (cmp_any Aa na ca la Ab nb cb lb _ ha hb).mono ?_
      rintro e w5 ⟨rfl, hb5⟩
      replace ha := ha.below hb5
      replace hb := hb.below hb5
      replace hS := below_step hb5 hS
      clear hb5
      go_wp2_with fail
      refine (add2 ha hb _ (by simp) (by omega) (by omega)).mono ?_
      rintro e w6 ⟨A6, n6, c6, rfl, hx, hb6, hn6⟩
      try simp only [val_limbs] at hx
      try simp only [val_nil] at hx
      replace ha := ha.below hb6
      replace hb := hb.below hb6
      replace hS := below_step hb6 hS
      clear hb6
      go_wp2_with fail
      refine (radd2 ha hb (by omega) (by omega)).mono ?_
      rintro e w7 ⟨A7, n7, c7, rfl, hy, hb7, hn7⟩
      try simp only [val_limbs] at hy
      try simp only [val_nil] at hy
      replace ha := ha.below hb7
      replace hb := hb.below hb7
      replace hx := hx.below hb7
      replace hS := below_step hb7 hS
      clear hb7
      go_wp2_with fail
      refine (same_num_yes hx hy rfl).mono ?_
      rintro e w8 ⟨rfl, hb8⟩
      replace ha := ha.below hb8
      replace hb := hb.below hb8
      replace hx := hx.below hb8
      replace hy := hy.below hb8
      replace hS := below_step hb8 hS
      clear hb8
      clear hx hy
      go_wp2_with fail
      refine (mul2 ha hb _ (by simp) (by omega) (by omega)).mono ?_
      rintro e w9 ⟨A9, n9, c9, rfl, hx, hb9, hn9⟩
      try simp only [val_limbs] at hx
      try simp only [val_nil] at hx
      replace ha := ha.below hb9
      replace hb := hb.below hb9
      replace hS := below_step hb9 hS
      clear hb9
      go_wp2_with fail
      refine (rmul2 ha hb (by omega) (by omega)).mono ?_
      rintro e w10 ⟨A10, n10, c10, rfl, hy, hb10, hn10⟩
      try simp only [val_limbs] at hy
      try simp only [val_nil] at hy
      replace ha := ha.below hb10
      replace hb := hb.below hb10
      replace hx := hx.below hb10
      replace hS := below_step hb10 hS
      clear hb10
      go_wp2_with fail
      refine (same_num_yes hx hy rfl).mono ?_
      rintro e w11 ⟨rfl, hb11⟩
      replace ha := ha.below hb11
      replace hb := hb.below hb11
      replace hx := hx.below hb11
      replace hy := hy.below hb11
      replace hS := below_step hb11 hS
      clear hb11
      clear hx hy
      go_wp2
      go_ret
      exact ⟨by simp, hS⟩
end Go.Proofs.Ytpfhohfcohkhnaa
