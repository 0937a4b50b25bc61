/- The walk of the law NatDivisions. -/
import Derived.Test.YtpfhohfcohkhnaaGcd
namespace Go.Proofs.Ytpfhohfcohkhnaa
open Go.RowKit

set_option maxHeartbeats 4000000 in
theorem law_NatDivisions (w : World) (Ab : Option Addr) (nb cb : Nat) (lb : List Nat) (hb : Rd w Ab nb cb lb) (Aq : Option Addr) (nq cq : Nat) (lq : List Nat) (hq : Rd w Aq nq cq lq) (Ar : Option Addr) (nr cr : Nat) (lr : List Nat) (hr : Rd w Ar nr cr lr) :
    Calls Try.prog 20 #[.slice Ab nb cb, .slice Aq nq cq, .slice Ar nr cr] w (Makes (.bool true) w) := by
  have hS := below_alloc w (.cells #[.slice Ab nb cb, .slice Aq nq cq, .slice Ar nr cr] 42)
  have hL := rdl_three 42 hb hq hr
  go_enter Try.func20, Try.ntmps20
  go_wp2_with fail
  refine (long_any 20 _ 3 3 _ _ hL).mono ?_
  rintro e w0 ⟨rfl, hw0⟩
  subst hw0
  cases hlong : anyLong 20 [lb, lq, lr] with
  | true =>
    clear hlong
    go_wp2
    go_ret
    exact ⟨rfl, hS⟩
  | false =>
    have hnb : nb ≤ 20 := by
      have := anyLong_false hlong lb (by simp)
      have := hb.len
      omega
    have hnq : nq ≤ 20 := by
      have := anyLong_false hlong lq (by simp)
      have := hq.len
      omega
    have hnr : nr ≤ 20 := by
      have := anyLong_false hlong lr (by simp)
      have := hr.len
      omega
    clear hlong hL
    obtain ⟨w0, hw0⟩ : ∃ w0, w0 = World.alloc w (.cells #[.slice Ab nb cb, .slice Aq nq cq, .slice Ar nr cr] 42) := ⟨_, rfl⟩
    rw [← hw0] at hS ⊢
    have hb : Rd w0 Ab nb cb lb := by rw [hw0]; exact hb.below (below_alloc w (.cells #[.slice Ab nb cb, .slice Aq nq cq, .slice Ar nr cr] 42))
    have hq : Rd w0 Aq nq cq lq := by rw [hw0]; exact hq.below (below_alloc w (.cells #[.slice Ab nb cb, .slice Aq nq cq, .slice Ar nr cr] 42))
    have hr : Rd w0 Ar nr cr lr := by rw [hw0]; exact hr.below (below_alloc w (.cells #[.slice Ab nb cb, .slice Aq nq cq, .slice Ar nr cr] 42))
    clear hw0
    go_wp2_with fail
    refine (cmp_any Ar nr cr lr Ab nb cb lb _ hr hb).mono ?_
    rintro e w1 ⟨rfl, hb1⟩
    replace hb := hb.below hb1
    replace hq := hq.below hb1
    replace hr := hr.below hb1
    replace hS := below_step hb1 hS
    clear hb1
    by_cases hlt : val lr < val lb
    case neg =>
      have hc : 0 ≤ cmpV (val lr) (val lb) := by unfold cmpV; rw [if_neg hlt]; split <;> omega
      generalize cmpV (val lr) (val lb) = cv at *
      clear hlt
      have h2 := rd_lit1 (w := w1) (x := 2) (w1.heap.size) (by simp) 2 rfl (by omega) (by omega)
      replace hb := hb.below (below_alloc _ (.cells #[Value.int .u32 2] 56))
      replace hq := hq.below (below_alloc _ (.cells #[Value.int .u32 2] 56))
      replace hr := hr.below (below_alloc _ (.cells #[Value.int .u32 2] 56))
      replace hS := below_step (below_alloc _ (.cells #[Value.int .u32 2] 56)) hS
      have h1 := rd_lit1 (w := (World.alloc w1 (.cells #[Value.int .u32 2] 56))) (x := 1) (w1.heap.size + 1) (by simp) 1 rfl (by omega) (by omega)
      replace hb := hb.below (below_alloc _ (.cells #[Value.int .u32 1] 56))
      replace hq := hq.below (below_alloc _ (.cells #[Value.int .u32 1] 56))
      replace hr := hr.below (below_alloc _ (.cells #[Value.int .u32 1] 56))
      replace h2 := h2.below (below_alloc _ (.cells #[Value.int .u32 1] 56))
      replace hS := below_step (below_alloc _ (.cells #[Value.int .u32 1] 56)) hS
      go_wp2_with fail
      refine (cmp_any _ 1 1 (limbs 2) _ 1 1 (limbs 1) _ h2 h1).mono ?_
      rintro e w2 ⟨rfl, hb2⟩
      replace hb := hb.below hb2
      replace hq := hq.below hb2
      replace hr := hr.below hb2
      replace h2 := h2.below hb2
      replace h1 := h1.below hb2
      replace hS := below_step hb2 hS
      clear hb2
      clear h1 h2
      rw [show cmpV (val (limbs 2)) (val (limbs 1)) = 1 from by rw [val_limbs, val_limbs]; rfl]
      go_wp2
      go_ret
      exact ⟨by rfl, hS⟩
    case pos =>
      have hc : cmpV (val lr) (val lb) < 0 := by rw [cmpV_lt hlt]; omega
      have HLT := hide hlt
      have hb0 : val lb ≠ 0 := by omega
      generalize cmpV (val lr) (val lb) = cv at *
      clear hlt
      go_wp2_with fail
      refine (mul2 hq hb _ (by simp) (by omega) (by omega)).mono ?_
      rintro e w2 ⟨A2, n2, c2, rfl, hu, hb2, hn2⟩
      try simp only [val_limbs] at hu
      try simp only [val_nil] at hu
      replace hb := hb.below hb2
      replace hq := hq.below hb2
      replace hr := hr.below hb2
      replace hS := below_step hb2 hS
      clear hb2
      go_wp2_with fail
      refine (add2 hu hr _ (by simp) (by omega) (by omega)).mono ?_
      rintro e w3 ⟨A3, n3, c3, rfl, hv, hb3, hn3⟩
      try simp only [val_limbs] at hv
      try simp only [val_nil] at hv
      replace hb := hb.below hb3
      replace hq := hq.below hb3
      replace hr := hr.below hb3
      replace hu := hu.below hb3
      replace hS := below_step hb3 hS
      clear hb3
      clear hu
      have hcall := divmod1 hv hb (by omega) (by omega) hb0
      rw [val_limbs, show (val lq * val lb + val lr) / val lb = val lq from by rw [Nat.mul_comm, Nat.mul_add_div (by omega), Nat.div_eq_of_lt HLT.out]; rfl, show (val lq * val lb + val lr) % val lb = val lr from by rw [Nat.mul_comm, Nat.mul_add_mod, Nat.mod_eq_of_lt HLT.out]] at hcall
      clear hb0
      go_wp2_with fail
      refine (hcall).mono ?_
      rintro e w4 ⟨A4q, n4q, c4q, A4, n4, c4, rfl, hx, hy, hb4, hn4q, hn4⟩
      try simp only [val_limbs] at hx
      try simp only [val_limbs] at hy
      replace hb := hb.below hb4
      replace hq := hq.below hb4
      replace hr := hr.below hb4
      replace hv := hv.below hb4
      replace hS := below_step hb4 hS
      clear hb4
      clear hcall
      clear hv
      go_wp2_with fail
      refine (trim1 hq (by omega)).mono ?_
      rintro e w5 ⟨A5, n5, c5, rfl, hu, hb5, hn5⟩
      try simp only [val_limbs] at hu
      try simp only [val_nil] at hu
      replace hb := hb.below hb5
      replace hq := hq.below hb5
      replace hr := hr.below hb5
      replace hx := hx.below hb5
      replace hy := hy.below hb5
      replace hS := below_step hb5 hS
      clear hb5
      go_wp2_with fail
      refine (same_num_yes hx hu rfl).mono ?_
      rintro e w6 ⟨rfl, hb6⟩
      replace hb := hb.below hb6
      replace hq := hq.below hb6
      replace hr := hr.below hb6
      replace hx := hx.below hb6
      replace hy := hy.below hb6
      replace hu := hu.below hb6
      replace hS := below_step hb6 hS
      clear hb6
      clear hx hu
      go_wp2_with fail
      refine (trim1 hr (by omega)).mono ?_
      rintro e w7 ⟨A7, n7, c7, rfl, hu, hb7, hn7⟩
      try simp only [val_limbs] at hu
      try simp only [val_nil] at hu
      replace hb := hb.below hb7
      replace hq := hq.below hb7
      replace hr := hr.below hb7
      replace hy := hy.below hb7
      replace hS := below_step hb7 hS
      clear hb7
      go_wp2_with fail
      refine (same_num_yes hy hu rfl).mono ?_
      rintro e w8 ⟨rfl, hb8⟩
      replace hb := hb.below hb8
      replace hq := hq.below hb8
      replace hr := hr.below hb8
      replace hy := hy.below hb8
      replace hu := hu.below hb8
      replace hS := below_step hb8 hS
      clear hb8
      clear hy hu
      go_wp2
      go_ret
      exact ⟨by rfl, hS⟩
end Go.Proofs.Ytpfhohfcohkhnaa
