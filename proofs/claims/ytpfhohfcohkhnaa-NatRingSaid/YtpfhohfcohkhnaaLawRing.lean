/- The walk of the law NatRing. -/
import Derived.Test.YtpfhohfcohkhnaaTwo
namespace Go.Proofs.Ytpfhohfcohkhnaa
open Go.RowKit

set_option maxHeartbeats 4000000 in
theorem law_NatRing (w : World) (Aa : Option Addr) (na ca : Nat) (la : List Nat) (ha : Rd w Aa na ca la) (Ab : Option Addr) (nb cb : Nat) (lb : List Nat) (hb : Rd w Ab nb cb lb) (Ac : Option Addr) (nc cc : Nat) (lc : List Nat) (hc : Rd w Ac nc cc lc) :
    Calls Try.prog 10 #[.slice Aa na ca, .slice Ab nb cb, .slice Ac nc cc] w (Makes (.bool true) w) := by
  have hS := below_alloc w (.cells #[.slice Aa na ca, .slice Ab nb cb, .slice Ac nc cc] 42)
  have hL := rdl_three 42 ha hb hc
  go_enter Try.func10, Try.ntmps10
  go_wp2_with fail
  refine (long_any 60 _ 3 3 _ _ hL).mono ?_
  rintro e w0 ⟨rfl, hw0⟩
  subst hw0
  cases hlong : anyLong 60 [la, lb, lc] with
  | true =>
    clear hlong
    go_wp2
    go_ret
    exact ⟨rfl, hS⟩
  | false =>
    have hna : na ≤ 60 := by
      have := anyLong_false hlong la (by simp)
      have := ha.len
      omega
    have hnb : nb ≤ 60 := by
      have := anyLong_false hlong lb (by simp)
      have := hb.len
      omega
    have hnc : nc ≤ 60 := by
      have := anyLong_false hlong lc (by simp)
      have := hc.len
      omega
    clear hlong hL
    obtain ⟨w0, hw0⟩ : ∃ w0, w0 = World.alloc w (.cells #[.slice Aa na ca, .slice Ab nb cb, .slice Ac nc cc] 42) := ⟨_, rfl⟩
    rw [← hw0] at hS ⊢
    have ha : Rd w0 Aa na ca la := by rw [hw0]; exact ha.below (below_alloc w (.cells #[.slice Aa na ca, .slice Ab nb cb, .slice Ac nc cc] 42))
    have hb : Rd w0 Ab nb cb lb := by rw [hw0]; exact hb.below (below_alloc w (.cells #[.slice Aa na ca, .slice Ab nb cb, .slice Ac nc cc] 42))
    have hc : Rd w0 Ac nc cc lc := by rw [hw0]; exact hc.below (below_alloc w (.cells #[.slice Aa na ca, .slice Ab nb cb, .slice Ac nc cc] 42))
    clear hw0
    have h3 := rd_lit1 (w := w0) (x := 3) (w0.heap.size) (by simp) 3 rfl (by omega) (by omega)
    replace ha := ha.below (below_alloc _ (.cells #[Value.int .u32 3] 56))
    replace hb := hb.below (below_alloc _ (.cells #[Value.int .u32 3] 56))
    replace hc := hc.below (below_alloc _ (.cells #[Value.int .u32 3] 56))
    replace hS := below_step (below_alloc _ (.cells #[Value.int .u32 3] 56)) hS
    have h5 := rd_lit1 (w := (World.alloc w0 (.cells #[Value.int .u32 3] 56))) (x := 5) (w0.heap.size + 1) (by simp) 5 rfl (by omega) (by omega)
    replace ha := ha.below (below_alloc _ (.cells #[Value.int .u32 5] 56))
    replace hb := hb.below (below_alloc _ (.cells #[Value.int .u32 5] 56))
    replace hc := hc.below (below_alloc _ (.cells #[Value.int .u32 5] 56))
    replace h3 := h3.below (below_alloc _ (.cells #[Value.int .u32 5] 56))
    replace hS := below_step (below_alloc _ (.cells #[Value.int .u32 5] 56)) hS
    go_wp2_with fail
    refine (add2 h3 h5 _ (by simp) (by omega) (by omega)).mono ?_
    rintro e w1 ⟨A1, n1, c1, rfl, hx, hb1, hn1⟩
    try simp only [val_limbs] at hx
    try simp only [val_nil] at hx
    replace ha := ha.below hb1
    replace hb := hb.below hb1
    replace hc := hc.below hb1
    replace h3 := h3.below hb1
    replace h5 := h5.below hb1
    replace hS := below_step hb1 hS
    clear hb1
    clear h3 h5
    have h8 := rd_lit1 (w := w1) (x := 8) (w1.heap.size) (by simp) 8 rfl (by omega) (by omega)
    replace ha := ha.below (below_alloc _ (.cells #[Value.int .u32 8] 56))
    replace hb := hb.below (below_alloc _ (.cells #[Value.int .u32 8] 56))
    replace hc := hc.below (below_alloc _ (.cells #[Value.int .u32 8] 56))
    replace hx := hx.below (below_alloc _ (.cells #[Value.int .u32 8] 56))
    replace hS := below_step (below_alloc _ (.cells #[Value.int .u32 8] 56)) hS
    go_wp2_with fail
    refine (same_num_yes hx h8 rfl).mono ?_
    rintro e w2 ⟨rfl, hb2⟩
    replace ha := ha.below hb2
    replace hb := hb.below hb2
    replace hc := hc.below hb2
    replace hx := hx.below hb2
    replace h8 := h8.below hb2
    replace hS := below_step hb2 hS
    clear hb2
    clear hx h8
    have h3 := rd_lit1 (w := w2) (x := 3) (w2.heap.size) (by simp) 3 rfl (by omega) (by omega)
    replace ha := ha.below (below_alloc _ (.cells #[Value.int .u32 3] 56))
    replace hb := hb.below (below_alloc _ (.cells #[Value.int .u32 3] 56))
    replace hc := hc.below (below_alloc _ (.cells #[Value.int .u32 3] 56))
    replace hS := below_step (below_alloc _ (.cells #[Value.int .u32 3] 56)) hS
    have h5 := rd_lit1 (w := (World.alloc w2 (.cells #[Value.int .u32 3] 56))) (x := 5) (w2.heap.size + 1) (by simp) 5 rfl (by omega) (by omega)
    replace ha := ha.below (below_alloc _ (.cells #[Value.int .u32 5] 56))
    replace hb := hb.below (below_alloc _ (.cells #[Value.int .u32 5] 56))
    replace hc := hc.below (below_alloc _ (.cells #[Value.int .u32 5] 56))
    replace h3 := h3.below (below_alloc _ (.cells #[Value.int .u32 5] 56))
    replace hS := below_step (below_alloc _ (.cells #[Value.int .u32 5] 56)) hS
    go_wp2_with fail
    refine (mul2 h3 h5 _ (by simp) (by omega) (by omega)).mono ?_
    rintro e w3 ⟨A3, n3, c3, rfl, hx, hb3, hn3⟩
    try simp only [val_limbs] at hx
    try simp only [val_nil] at hx
    replace ha := ha.below hb3
    replace hb := hb.below hb3
    replace hc := hc.below hb3
    replace h3 := h3.below hb3
    replace h5 := h5.below hb3
    replace hS := below_step hb3 hS
    clear hb3
    clear h3 h5
    have h8 := rd_lit1 (w := w3) (x := 15) (w3.heap.size) (by simp) 15 rfl (by omega) (by omega)
    replace ha := ha.below (below_alloc _ (.cells #[Value.int .u32 15] 56))
    replace hb := hb.below (below_alloc _ (.cells #[Value.int .u32 15] 56))
    replace hc := hc.below (below_alloc _ (.cells #[Value.int .u32 15] 56))
    replace hx := hx.below (below_alloc _ (.cells #[Value.int .u32 15] 56))
    replace hS := below_step (below_alloc _ (.cells #[Value.int .u32 15] 56)) hS
    go_wp2_with fail
    refine (same_num_yes hx h8 rfl).mono ?_
    rintro e w4 ⟨rfl, hb4⟩
    replace ha := ha.below hb4
    replace hb := hb.below hb4
    replace hc := hc.below hb4
    replace hx := hx.below hb4
    replace h8 := h8.below hb4
    replace hS := below_step hb4 hS
    clear hb4
    clear hx h8
    go_wp2_with fail
    refine (add2 ha hb _ (by simp) (by omega) (by omega)).mono ?_
    rintro e w5 ⟨A5, n5, c5, rfl, hx, hb5, hn5⟩
    try simp only [val_limbs] at hx
    try simp only [val_nil] at hx
    replace ha := ha.below hb5
    replace hb := hb.below hb5
    replace hc := hc.below hb5
    replace hS := below_step hb5 hS
    clear hb5
    go_wp2_with fail
    refine (add2 hb ha _ (by simp) (by omega) (by omega)).mono ?_
    rintro e w6 ⟨A6, n6, c6, rfl, hy, hb6, hn6⟩
    try simp only [val_limbs] at hy
    try simp only [val_nil] at hy
    replace ha := ha.below hb6
    replace hb := hb.below hb6
    replace hc := hc.below hb6
    replace hx := hx.below hb6
    replace hS := below_step hb6 hS
    clear hb6
    go_wp2_with fail
    refine (same_num_yes hx hy (Nat.add_comm _ _)).mono ?_
    rintro e w7 ⟨rfl, hb7⟩
    replace ha := ha.below hb7
    replace hb := hb.below hb7
    replace hc := hc.below hb7
    replace hx := hx.below hb7
    replace hy := hy.below hb7
    replace hS := below_step hb7 hS
    clear hb7
    clear hx hy
    go_wp2_with fail
    refine (mul2 ha hb _ (by simp) (by omega) (by omega)).mono ?_
    rintro e w8 ⟨A8, n8, c8, rfl, hx, hb8, hn8⟩
    try simp only [val_limbs] at hx
    try simp only [val_nil] at hx
    replace ha := ha.below hb8
    replace hb := hb.below hb8
    replace hc := hc.below hb8
    replace hS := below_step hb8 hS
    clear hb8
    go_wp2_with fail
    refine (mul2 hb ha _ (by simp) (by omega) (by omega)).mono ?_
    rintro e w9 ⟨A9, n9, c9, rfl, hy, hb9, hn9⟩
    try simp only [val_limbs] at hy
    try simp only [val_nil] at hy
    replace ha := ha.below hb9
    replace hb := hb.below hb9
    replace hc := hc.below hb9
    replace hx := hx.below hb9
    replace hS := below_step hb9 hS
    clear hb9
    go_wp2_with fail
    refine (same_num_yes hx hy (Nat.mul_comm _ _)).mono ?_
    rintro e w10 ⟨rfl, hb10⟩
    replace ha := ha.below hb10
    replace hb := hb.below hb10
    replace hc := hc.below hb10
    replace hx := hx.below hb10
    replace hy := hy.below hb10
    replace hS := below_step hb10 hS
    clear hb10
    clear hx hy
    go_wp2_with fail
    refine (add2 ha hb _ (by simp) (by omega) (by omega)).mono ?_
    rintro e w11 ⟨A11, n11, c11, rfl, hx, hb11, hn11⟩
    try simp only [val_limbs] at hx
    try simp only [val_nil] at hx
    replace ha := ha.below hb11
    replace hb := hb.below hb11
    replace hc := hc.below hb11
    replace hS := below_step hb11 hS
    clear hb11
    go_wp2_with fail
    refine (add2 hx hc _ (by simp) (by omega) (by omega)).mono ?_
    rintro e w12 ⟨A12, n12, c12, rfl, hy, hb12, hn12⟩
    try simp only [val_limbs] at hy
    try simp only [val_nil] at hy
    replace ha := ha.below hb12
    replace hb := hb.below hb12
    replace hc := hc.below hb12
    replace hx := hx.below hb12
    replace hS := below_step hb12 hS
    clear hb12
    clear hx
    go_wp2_with fail
    refine (add2 hb hc _ (by simp) (by omega) (by omega)).mono ?_
    rintro e w13 ⟨A13, n13, c13, rfl, hx, hb13, hn13⟩
    try simp only [val_limbs] at hx
    try simp only [val_nil] at hx
    replace ha := ha.below hb13
    replace hb := hb.below hb13
    replace hc := hc.below hb13
    replace hy := hy.below hb13
    replace hS := below_step hb13 hS
    clear hb13
    go_wp2_with fail
    refine (add2 ha hx _ (by simp) (by omega) (by omega)).mono ?_
    rintro e w14 ⟨A14, n14, c14, rfl, hz, hb14, hn14⟩
    try simp only [val_limbs] at hz
    try simp only [val_nil] at hz
    replace ha := ha.below hb14
    replace hb := hb.below hb14
    replace hc := hc.below hb14
    replace hy := hy.below hb14
    replace hx := hx.below hb14
    replace hS := below_step hb14 hS
    clear hb14
    clear hx
    go_wp2_with fail
    refine (same_num_yes hy hz (Nat.add_assoc _ _ _)).mono ?_
    rintro e w15 ⟨rfl, hb15⟩
    replace ha := ha.below hb15
    replace hb := hb.below hb15
    replace hc := hc.below hb15
    replace hy := hy.below hb15
    replace hz := hz.below hb15
    replace hS := below_step hb15 hS
    clear hb15
    clear hy hz
    go_wp2_with fail
    refine (mul2 ha hb _ (by simp) (by omega) (by omega)).mono ?_
    rintro e w16 ⟨A16, n16, c16, rfl, hx, hb16, hn16⟩
    try simp only [val_limbs] at hx
    try simp only [val_nil] at hx
    replace ha := ha.below hb16
    replace hb := hb.below hb16
    replace hc := hc.below hb16
    replace hS := below_step hb16 hS
    clear hb16
    go_wp2_with fail
    refine (mul2 hx hc _ (by simp) (by omega) (by omega)).mono ?_
    rintro e w17 ⟨A17, n17, c17, rfl, hy, hb17, hn17⟩
    try simp only [val_limbs] at hy
    try simp only [val_nil] at hy
    replace ha := ha.below hb17
    replace hb := hb.below hb17
    replace hc := hc.below hb17
    replace hx := hx.below hb17
    replace hS := below_step hb17 hS
    clear hb17
    clear hx
    go_wp2_with fail
    refine (mul2 hb hc _ (by simp) (by omega) (by omega)).mono ?_
    rintro e w18 ⟨A18, n18, c18, rfl, hx, hb18, hn18⟩
    try simp only [val_limbs] at hx
    try simp only [val_nil] at hx
    replace ha := ha.below hb18
    replace hb := hb.below hb18
    replace hc := hc.below hb18
    replace hy := hy.below hb18
    replace hS := below_step hb18 hS
    clear hb18
    go_wp2_with fail
    refine (mul2 ha hx _ (by simp) (by omega) (by omega)).mono ?_
    rintro e w19 ⟨A19, n19, c19, rfl, hz, hb19, hn19⟩
    try simp only [val_limbs] at hz
    try simp only [val_nil] at hz
    replace ha := ha.below hb19
    replace hb := hb.below hb19
    replace hc := hc.below hb19
    replace hy := hy.below hb19
    replace hx := hx.below hb19
    replace hS := below_step hb19 hS
    clear hb19
    clear hx
    go_wp2_with fail
    refine (same_num_yes hy hz (Nat.mul_assoc _ _ _)).mono ?_
    rintro e w20 ⟨rfl, hb20⟩
    replace ha := ha.below hb20
    replace hb := hb.below hb20
    replace hc := hc.below hb20
    replace hy := hy.below hb20
    replace hz := hz.below hb20
    replace hS := below_step hb20 hS
    clear hb20
    clear hy hz
    go_wp2_with fail
    refine (add2 hb hc _ (by simp) (by omega) (by omega)).mono ?_
    rintro e w21 ⟨A21, n21, c21, rfl, hx, hb21, hn21⟩
    try simp only [val_limbs] at hx
    try simp only [val_nil] at hx
    replace ha := ha.below hb21
    replace hb := hb.below hb21
    replace hc := hc.below hb21
    replace hS := below_step hb21 hS
    clear hb21
    go_wp2_with fail
    refine (mul2 ha hx _ (by simp) (by omega) (by omega)).mono ?_
    rintro e w22 ⟨A22, n22, c22, rfl, hy, hb22, hn22⟩
    try simp only [val_limbs] at hy
    try simp only [val_nil] at hy
    replace ha := ha.below hb22
    replace hb := hb.below hb22
    replace hc := hc.below hb22
    replace hx := hx.below hb22
    replace hS := below_step hb22 hS
    clear hb22
    clear hx
    go_wp2_with fail
    refine (mul2 ha hb _ (by simp) (by omega) (by omega)).mono ?_
    rintro e w23 ⟨A23, n23, c23, rfl, hx, hb23, hn23⟩
    try simp only [val_limbs] at hx
    try simp only [val_nil] at hx
    replace ha := ha.below hb23
    replace hb := hb.below hb23
    replace hc := hc.below hb23
    replace hy := hy.below hb23
    replace hS := below_step hb23 hS
    clear hb23
    go_wp2_with fail
    refine (mul2 ha hc _ (by simp) (by omega) (by omega)).mono ?_
    rintro e w24 ⟨A24, n24, c24, rfl, hz, hb24, hn24⟩
    try simp only [val_limbs] at hz
    try simp only [val_nil] at hz
    replace ha := ha.below hb24
    replace hb := hb.below hb24
    replace hc := hc.below hb24
    replace hy := hy.below hb24
    replace hx := hx.below hb24
    replace hS := below_step hb24 hS
    clear hb24
    go_wp2_with fail
    refine (add2 hx hz _ (by simp) (by omega) (by omega)).mono ?_
    rintro e w25 ⟨A25, n25, c25, rfl, hu, hb25, hn25⟩
    try simp only [val_limbs] at hu
    try simp only [val_nil] at hu
    replace ha := ha.below hb25
    replace hb := hb.below hb25
    replace hc := hc.below hb25
    replace hy := hy.below hb25
    replace hx := hx.below hb25
    replace hz := hz.below hb25
    replace hS := below_step hb25 hS
    clear hb25
    clear hx hz
    go_wp2_with fail
    refine (same_num_yes hy hu (Nat.mul_add _ _ _)).mono ?_
    rintro e w26 ⟨rfl, hb26⟩
    replace ha := ha.below hb26
    replace hb := hb.below hb26
    replace hc := hc.below hb26
    replace hy := hy.below hb26
    replace hu := hu.below hb26
    replace hS := below_step hb26 hS
    clear hb26
    clear hy hu
    go_wp2_with fail
    refine (add2 ha (Rd.nil _) _ (by simp) (by omega) (by omega)).mono ?_
    rintro e w27 ⟨A27, n27, c27, rfl, hx, hb27, hn27⟩
    try simp only [val_limbs] at hx
    try simp only [val_nil] at hx
    replace ha := ha.below hb27
    replace hb := hb.below hb27
    replace hc := hc.below hb27
    replace hS := below_step hb27 hS
    clear hb27
    go_wp2_with fail
    refine (trim1 ha (by omega)).mono ?_
    rintro e w28 ⟨A28, n28, c28, rfl, hy, hb28, hn28⟩
    try simp only [val_limbs] at hy
    try simp only [val_nil] at hy
    replace ha := ha.below hb28
    replace hb := hb.below hb28
    replace hc := hc.below hb28
    replace hx := hx.below hb28
    replace hS := below_step hb28 hS
    clear hb28
    go_wp2_with fail
    refine (same_num_yes hx hy (Nat.add_zero _)).mono ?_
    rintro e w29 ⟨rfl, hb29⟩
    replace ha := ha.below hb29
    replace hb := hb.below hb29
    replace hc := hc.below hb29
    replace hx := hx.below hb29
    replace hy := hy.below hb29
    replace hS := below_step hb29 hS
    clear hb29
    clear hx hy
    have h1 := rd_lit1 (w := w29) (x := 1) (w29.heap.size) (by simp) 1 rfl (by omega) (by omega)
    replace ha := ha.below (below_alloc _ (.cells #[Value.int .u32 1] 56))
    replace hb := hb.below (below_alloc _ (.cells #[Value.int .u32 1] 56))
    replace hc := hc.below (below_alloc _ (.cells #[Value.int .u32 1] 56))
    replace hS := below_step (below_alloc _ (.cells #[Value.int .u32 1] 56)) hS
    go_wp2_with fail
    refine (mul2 ha h1 _ (by simp) (by omega) (by omega)).mono ?_
    rintro e w30 ⟨A30, n30, c30, rfl, hx, hb30, hn30⟩
    try simp only [val_limbs] at hx
    try simp only [val_nil] at hx
    replace ha := ha.below hb30
    replace hb := hb.below hb30
    replace hc := hc.below hb30
    replace h1 := h1.below hb30
    replace hS := below_step hb30 hS
    clear hb30
    clear h1
    go_wp2_with fail
    refine (trim1 ha (by omega)).mono ?_
    rintro e w31 ⟨A31, n31, c31, rfl, hy, hb31, hn31⟩
    try simp only [val_limbs] at hy
    try simp only [val_nil] at hy
    replace ha := ha.below hb31
    replace hb := hb.below hb31
    replace hc := hc.below hb31
    replace hx := hx.below hb31
    replace hS := below_step hb31 hS
    clear hb31
    go_wp2_with fail
    refine (same_num_yes hx hy (Nat.mul_one _)).mono ?_
    rintro e w32 ⟨rfl, hb32⟩
    replace ha := ha.below hb32
    replace hb := hb.below hb32
    replace hc := hc.below hb32
    replace hx := hx.below hb32
    replace hy := hy.below hb32
    replace hS := below_step hb32 hS
    clear hb32
    clear hx hy
    go_wp2
    go_ret
    exact ⟨by rfl, hS⟩
end Go.Proofs.Ytpfhohfcohkhnaa
